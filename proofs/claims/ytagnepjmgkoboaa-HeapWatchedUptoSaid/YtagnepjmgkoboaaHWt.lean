
/- 'HeapWatched' answers true: a watcher is told what is made and what is linked. -/
import Derived.Test.YtagnepjmgkoboaaHPl
import Derived.Test.YtagnepjmgkoboaaUs
set_option maxRecDepth 100000
namespace Go.Proofs.Ytagnepjmgkoboaa
open Go Go.Lw Go.Wd Go.Am Go.Tb Go.Hm Go.ChangeShapes Go.WideShapes Go.ChangeAt Go.RowKit

def vw (wb : Nat) (on : Bool) : Value := bif on then watV wb else .nilIface
section
variable {b wb : Nat} {H : Hp} {s : List Nat × List Nat} {hs : List Nat} {r : Rh} {om : List (R9 × Gq)} {w W : World} {S : Mem} {F : List HP} {d : Dd}
theorem watched_play (on : Bool) {k : Nat} (hk : k < 1000000000) (hS : Sat (HeapH H (vw wb on) b :: WatH wb s :: Ro W S :: F) w) (hs1 : s.1.length ≤ k) (hs2 : s.2.length ≤ k) (hM : Mir S H hs r om) (hl : hs.length ≤ H.t.n) (hcn : hs.length = H.t.count) {tp : Option Addr} {tc : Nat} (hT : CRs S 1 (words hs) tp hs.length tc) (hw : d.w < 18446744073709551616) (hy64 : -9223372036854775808 ≤ d.y ∧ d.y ≤ 9223372036854775807) :
    Calls Try.prog 19 #[.pointer (some ⟨b, 0, none⟩), r.agg, .slice tp hs.length tc, d.agg] w fun e w' =>
    ∃ (S' : Mem) (r' : Rh) (om' : List (R9 × Gq)) (tp' : Option Addr) (tc' : Nat), e = .returned (.tuple #[r'.agg, .slice tp' (playH H hs d).2.length tc', .bool true]) ∧ Ext S S' ∧ Mir S' (playH H hs d).1 (playH H hs d).2 r' om' ∧ CRs S' 1 (words (playH H hs d).2) tp' (playH H hs d).2.length tc' ∧
      Sat (HeapH (playH H hs d).1 (vw wb on) b :: WatH wb (bif on then noteF H s hs d else s) :: Ro W S' :: F) w' := by
  cases on with
  | false =>
    have h1 : Sat (HeapH H .nilIface b :: (Wt.none b).at_ () :: Ro W S :: WatH wb s :: F) w := hemp_add ((Sat.pull hS 2 rfl).pull 1 rfl)
    refine (play_c (T := Wt.none b) (s := ()) h1 trivial hM hl hcn hT hw hy64).mono ?_
    rintro e w' ⟨S', r', om', tp', tc', he, hE, hM', hT', _, h2⟩
    rw [playF_none] at he hM' hT' h2
    refine ⟨S', r', om', tp', tc', he, hE, hM', hT', ?_⟩
    have h3 : Sat (HeapH (playH H hs d).1 .nilIface b :: Ro W S' :: WatH wb s :: F) w' := hemp_drop h2
    exact (h3.pull 2 rfl).pull 1 rfl
  | true =>
    have h1 : Sat (HeapH H (watV wb) b :: (Wt.watch wb b k hk).at_ s :: Ro W S :: F) w := hS
    refine (play_c (T := Wt.watch wb b k hk) (s := s) h1 ⟨hs1, hs2⟩ hM hl hcn hT hw hy64).mono ?_
    rintro e w' ⟨S', r', om', tp', tc', he, hE, hM', hT', _, h2⟩
    rw [playF_watch] at he hM' hT' h2
    exact ⟨S', r', om', tp', tc', he, hE, hM', hT', h2⟩

theorem list_c {L : List HP} {xs : List Nat} {p q : Option Addr} {c d : Nat} (hS : Sat L w) (hx : xs.length < 1000000000) (i : Nat) (hi : L[i]? = some (Own 23 1 p xs.length c (words xs))) (j : Nat) (hj : L[j]? = some (Own 23 1 q xs.length d (words xs))) :
    Calls Try.prog 22 #[.slice p xs.length c, .slice q xs.length d] w (Ret (.bool true) (Sat L)) := by
  refine S_law9_list_ok _ _ _ _ _ _ _ _ ?_
  unfold S_law9_list
  refine cond_f (by simp) ?_
  refine ⟨fun i w => ∃ q : Nat, i = q ∧ q ≤ xs.length ∧ Sat L w, fun i _ => (xs.length - i).toNat, ⟨0, rfl, by omega, hS⟩, ?_⟩
  rintro i0 w0 ⟨k, rfl, hk, h0⟩
  unfold S_law9_list_l0
  by_cases hkl : k < xs.length
  · refine cond_t (by simp; omega) ?_
    have h1 := h0.drew
    have hg : (words xs)[k * 1]? = some (.int .u64 (xs[k] : Int)) := by rw [Nat.mul_one]; unfold words; rw [List.getElem?_map, List.getElem?_eq_getElem hkl]; rfl
    refine IdxC.ownAt h1 i hi hkl fun g hp => LdI.at (h1.ownAt i hi hp hg) ?_
    refine IdxC.ownAt h1 j hj hkl fun g hp => LdI.at (h1.ownAt j hj hp hg) ?_
    refine cond_f (by simp) ?_
    rw [wrapI64 (by omega) (by omega)]
    exact ⟨⟨k + 1, by omega, by omega, h1⟩, by first | omega | (dsimp only; omega)⟩
  · exact cond_f (by simp; omega) ⟨rfl, h0⟩

theorem crs_nil (S : Mem) (k c : Nat) : CRs S k [] none 0 c := ⟨by simp, by omega, by omega, by simp, by simp⟩
theorem mir_new (S : Mem) (n k : Nat) : Mir S (Hp.new n k) [] Rh.zero [] :=
  ⟨by simp, fun x => by rw [new_look]; simp, rfl, ⟨rfl, by simp, crs_nil _ _ _⟩⟩
set_option maxHeartbeats 4000000 in
theorem watched_c (W : World) (fr to : Int) {p : Option Addr} {l c : Nat} {xs : List Value} (hx : ArgR W dks9 p l xs) (hll : l ≤ 1048576) :
    Calls Try.prog 4 #[.slice p l c, .int .i64 fr, .int .i64 to] W (Ret (.bool true) (Go.RowKit.Below W.heap.size W)) := by
  have h0 : Sat [Ro W (Mem.of W)] W := Sat.ofBase W
  refine S_law9_HeapWatched_ok _ _ _ _ _ _ _ ?_
  unfold S_law9_HeapWatched
  refine (awake_c h0).mono ?_
  rintro e w0 ⟨rfl, h1⟩
  refine ⟨_, rfl, cond_f rfl ?_⟩
  refine (fresh_c (n := 4096) (k := 256) (by omega) (by omega) (by omega) (by omega) h1).mono ?_
  rintro e w1 ⟨b, rfl, h2⟩
  refine ⟨_, rfl, cond_f rfl ?_⟩
  refine NewC.ofRow h2 fun wb w2 h3 => ?_
  refine NewC.ofRow h3 fun b1 w3 h4 => ?_
  have h5 : Sat [HeapH (Hp.new 4096 256) (vw wb false) b, WatH wb ([], []), Ro W (Mem.of W), Row b1 Rh.zero.cells 42, Own 23 1 none ([] : List Nat).length 0 (words []), Own 23 1 none ([] : List Nat).length 0 (words [])] w3 := by
    have a1 := Sat.ownNil (Sat.ownNil h4 23 1) 23 1
    have a2 : Sat [Row wb [.slice none 0 0, .slice none 0 0] 38, Own 23 1 none 0 0 [], Own 23 1 none 0 0 [], Row b1 Rh.zero.cells 42, HeapH (Hp.new 4096 256) .nilIface b, Ro W (Mem.of W)] w3 := Sat.pull a1 3 rfl
    have a3 : Sat [WatH wb ([], []), Row b1 Rh.zero.cells 42, HeapH (Hp.new 4096 256) .nilIface b, Ro W (Mem.of W)] w3 := wat_shut (s := ([], [])) a2
    have a4 := Sat.ownNil (Sat.ownNil a3 23 1) 23 1
    exact (((Sat.pull (Sat.pull (Sat.pull (Sat.pull a4 1 rfl) 1 rfl) 3 rfl) 5 rfl).pull 4 rfl).pull 5 rfl)
  clear h0 h1 h2 h3 h4
  refine ⟨fun mp ml mc lp ll lc tp tl tc on i w => ∃ (q : Nat) (S : Mem) (H : Hp) (hs : List Nat) (r : Rh) (om : List (R9 × Gq)) (s : List Nat × List Nat), i = q ∧ q ≤ l ∧ Ext (Mem.of W) S ∧ Mir S H hs r om ∧ CRs S 1 (words hs) tp hs.length tc ∧ tl = hs.length ∧ hs.length = H.t.count ∧ H.t.n = 256 ∧ s.1.length ≤ q ∧ s.2.length ≤ q ∧ ml = s.1.length ∧ ll = s.2.length ∧
      Sat [HeapH H (vw wb on) b, WatH wb s, Ro W S, Row b1 r.cells 42, Own 23 1 mp s.1.length mc (words s.1), Own 23 1 lp s.2.length lc (words s.2)] w,
    fun _ _ _ _ _ _ _ _ _ _ i _ => (l - i).toNat, ⟨0, Mem.of W, Hp.new 4096 256, [], Rh.zero, [], ([], []), rfl, by omega, Ext.refl _, mir_new _ _ _, crs_nil _ _ _, rfl, rfl, rfl, by simp, by simp, rfl, rfl, h5⟩, ?_⟩
  clear h5
  rintro mp ml mc lp ll lc tp tl tc on i w4 ⟨q, S, H, hs, r, om, s, rfl, hq, hE, hM, hT, rfl, hcn, hn, hs1, hs2, rfl, rfl, h5⟩
  have hm := sat_wf h5
  have hcl := count_le hm.tab
  have hl20 : hs.length ≤ 1048576 := by omega
  unfold S_law9_HeapWatched_l0
  by_cases hql : q < l
  rotate_left
  · -- the end
    refine cond_f (by simp; omega) ?_
    obtain ⟨p1, c1, q1, d1, h6⟩ := wat_open (Sat.pull h5 1 rfl)
    refine LdS.of h6 0 rfl (off := 0) rfl rfl ?_
    refine (list_c h6 (by omega) 1 rfl 6 rfl).mono ?_
    rintro e w5 ⟨rfl, h7⟩
    refine ⟨_, rfl, cond_t rfl ?_⟩
    refine LdS.of h7 0 rfl (off := 1) rfl (add_mk _ _ _) ?_
    refine (list_c h7 (by omega) 2 rfl 7 rfl).mono ?_
    rintro e w6 ⟨rfl, h8⟩
    exact ⟨_, rfl, rfl, h8.roBelow 4 rfl hE⟩
  refine cond_t (by simp; omega) ?_
  intro k0 hk0 k1 hk1
  obtain ⟨a, d, rfl, hz, hy64, hcell⟩ := deed_rd hx hql
  -- the next deed
  have goOn : ∀ (mp' : Option Addr) (mc' : Nat) (lp' : Option Addr) (lc' : Nat) (tp' : Option Addr) (tc' : Nat) (on' : Bool) (S' : Mem) (H' : Hp) (hs' : List Nat) (r' : Rh) (om' : List (R9 × Gq)) (s' : List Nat × List Nat) (ml' ll' tl' : Nat) (w' : World), Ext S S' → Mir S' H' hs' r' om' → CRs S' 1 (words hs') tp' hs'.length tc' → tl' = hs'.length → hs'.length = H'.t.count → H'.t.n = 256 → s'.1.length ≤ q + 1 → s'.2.length ≤ q + 1 → ml' = s'.1.length → ll' = s'.2.length →
      Sat [HeapH H' (vw wb on') b, WatH wb s', Ro W S', Row b1 r'.cells 42, Own 23 1 mp' s'.1.length mc' (words s'.1), Own 23 1 lp' s'.2.length lc' (words s'.2)] w' → k0 mp' ml' mc' lp' ll' lc' tp' tl' tc' on' w' := by
    intro mp' mc' lp' lc' tp' tc' on' S' H' hs' r' om' s' ml' ll' tl' w' a1 a2 a3 a4 a5 a6 a7 a8 a9 a10 a11
    refine hk0 _ _ _ _ _ _ _ _ _ _ _ ?_
    unfold S_law9_HeapWatched_j4
    rw [wrapI64 (by omega) (by omega)]
    exact ⟨⟨q + 1, S', H', hs', r', om', s', by omega, by omega, hE.trans a1, a2, a3, a4, a5, a6, a7, a8, a9, a10, a11⟩, by first | omega | (dsimp only; omega)⟩
  have rd : ∀ {S' : Mem}, Ext S S' → ∀ j v, d.cells[j]? = some v → ∀ w, Has S' w → w.cell? ((a.add (q * 6)).add j) = some v := fun e j v hj w hw => ((RdS.base (hcell j v hj)).mono (hE.trans e)) w hw
  have rd0 : ∀ {S' : Mem}, Ext S S' → ∀ w, Has S' w → w.cell? (a.add (q * 6)) = some (.int .i64 d.d) := fun e w hw => by simpa [Addr.add] using rd e 0 _ rfl w hw
  -- a deed is done, the watcher being on or not
  have done : ∀ (on2 : Bool) w8, Sat [HeapH H (vw wb on2) b, WatH wb s, Ro W S, Row b1 r.cells 42, Own 23 1 mp s.1.length mc (words s.1), Own 23 1 lp s.2.length lc (words s.2)] w8 →
      S_law9_HeapWatched_j2 (some a) l (Ret (.bool true) (Go.RowKit.Below W.heap.size W)) (some ⟨b, 0, none⟩) b1 mp s.1.length mc lp s.2.length lc tp hs.length tc (q : Int) k0 on2 w8 := by
    intro on2 w8 h6
    unfold S_law9_HeapWatched_j2
    intro k3 hk3
    have h7 := h6.drew
    generalize w8.drew = w9 at h7
    obtain ⟨g1, g2, g3⟩ := playH_count (d := d) hm.tab hcn
    have hlens := note_len (H := H) (hs := hs) (d := d) hs1 hs2
    have ix : ∀ {K : Addr → Prop}, K (a.add (q * 6)) → IdxC (some a) l (q : Int) 6 K := fun h => ⟨by omega, by omega, by rw [Int.toNat_natCast]; exact h⟩
    have after : ∀ {S' : Mem} {r' : Rh} {om' : List (R9 × Gq)} {tp' : Option Addr} {tc' b2 : Nat} {w' : World}, Ext S S' → Mir S' (playH H hs d).1 (playH H hs d).2 r' om' → CRs S' 1 (words (playH H hs d).2) tp' (playH H hs d).2.length tc' →
        Sat [Row b2 r'.cells 42, HeapH (playH H hs d).1 (vw wb on2) b, WatH wb (bif on2 then noteF H s hs d else s), Ro W S', Row b1 r.cells 42, Own 23 1 mp s.1.length mc (words s.1), Own 23 1 lp s.2.length lc (words s.2)] w' → k3 ⟨b2, 0, none⟩ tp' (playH H hs d).2.length tc' true w' := by
      intro S' r' om' tp' tc' b2 w' e1 hM' hT' h8
      refine hk3 _ _ _ _ _ _ ?_
      unfold S_law9_HeapWatched_j1
      refine cond_f rfl ?_
      intro k4 hk4
      have fin : ∀ (mp' : Option Addr) (mc' : Nat) (lp' : Option Addr) (lc' : Nat) (w' : World) (s' : List Nat × List Nat), s'.1.length ≤ q + 1 → s'.2.length ≤ q + 1 → Sat [Row b2 r'.cells 42, HeapH (playH H hs d).1 (vw wb on2) b, WatH wb s', Ro W S', Row b1 r.cells 42, Own 23 1 mp' s'.1.length mc' (words s'.1), Own 23 1 lp' s'.2.length lc' (words s'.2)] w' →
          Ld_tidemarkref9_Heap w' ⟨b2, 0, none⟩ fun p l c n0 n1 n2 n3 n4 n5 n6 n7 n8 n9 n10 n11 n12 n13 n14 n15 => St_tidemarkref9_Heap w' ⟨b1, 0, none⟩ p l c n0 n1 n2 n3 n4 n5 n6 n7 n8 n9 n10 n11 n12 n13 n14 n15 fun w9 =>
            k0 mp' s'.1.length mc' lp' s'.2.length lc' tp' (playH H hs d).2.length tc' on2 w9 := by
        intro mp' mc' lp' lc' w' s' l1 l2 h
        refine ldRh h 0 rfl (stRh (r := r') rfl h 4 rfl fun w2 h2 => ?_)
        exact goOn mp' mc' lp' lc' tp' tc' on2 S' (playH H hs d).1 (playH H hs d).2 r' om' s' _ _ _ w2 e1 hM' hT' rfl g1 (by rw [g2, hn]) l1 l2 rfl rfl (Sat.drop h2)
      cases on2 with
      | false =>
        refine cond_f rfl (hk4 _ _ _ _ ?_)
        unfold S_law9_HeapWatched_j0
        have h8 : Sat [Row b2 r'.cells 42, HeapH (playH H hs d).1 (vw wb false) b, WatH wb s, Ro W S', Row b1 r.cells 42, Own 23 1 mp s.1.length mc (words s.1), Own 23 1 lp s.2.length lc (words s.2)] w' := h8
        refine ix (LdI.at (rd e1 2 _ rfl _ (h8.has 3 rfl)) ?_)
        refine (pick_c h8 3 rfl (hT.mono e1) d.y).mono ?_
        rintro e w2 ⟨rfl, rfl⟩
        exact ⟨_, rfl, cond_f rfl (fin mp mc lp lc w' s (by omega) (by omega) h8)⟩
      | true =>
        have h8 : Sat [Row b2 r'.cells 42, HeapH (playH H hs d).1 (vw wb true) b, WatH wb (noteF H s hs d), Ro W S', Row b1 r.cells 42, Own 23 1 mp s.1.length mc (words s.1), Own 23 1 lp s.2.length lc (words s.2)] w' := h8
        have nm := note_made (H := H) (s := s) (hs := hs) (d := d)
        have n2no := note2_no (H := H) (s := s) (hs := hs) (d := d)
        have n2ref := note2_ref (H := H) (s := s) (hs := hs) (d := d)
        have n2root := note2_root (H := H) (s := s) (hs := hs) (d := d)
        generalize noteF H s hs d = N at h8 nm n2no n2ref n2root hlens
        refine cond_t rfl ?_
        have step2 : ∀ (mp' : Option Addr) (mc' : Nat) (w' : World), Sat [Row b2 r'.cells 42, HeapH (playH H hs d).1 (vw wb true) b, WatH wb N, Ro W S', Row b1 r.cells 42, Own 23 1 mp' N.1.length mc' (words N.1), Own 23 1 lp s.2.length lc (words s.2)] w' → k4 mp' N.1.length mc' w' := by
          clear h8
          intro mp' mc' w' h8
          refine hk4 _ _ _ _ ?_
          unfold S_law9_HeapWatched_j0
          refine ix (LdI.at (rd e1 2 _ rfl _ (h8.has 3 rfl)) ?_)
          refine (pick_c h8 3 rfl (hT.mono e1) d.y).mono ?_
          rintro e w2 ⟨rfl, rfl⟩
          refine ⟨_, rfl, cond_t rfl ?_⟩
          -- nothing is linked
          have no : ∀ w', N.2 = s.2 → Sat [Row b2 r'.cells 42, HeapH (playH H hs d).1 (vw wb true) b, WatH wb N, Ro W S', Row b1 r.cells 42, Own 23 1 mp' N.1.length mc' (words N.1), Own 23 1 lp s.2.length lc (words s.2)] w' →
              Ld_tidemarkref9_Heap w' ⟨b2, 0, none⟩ fun p l c n0 n1 n2 n3 n4 n5 n6 n7 n8 n9 n10 n11 n12 n13 n14 n15 => St_tidemarkref9_Heap w' ⟨b1, 0, none⟩ p l c n0 n1 n2 n3 n4 n5 n6 n7 n8 n9 n10 n11 n12 n13 n14 n15 fun w9 =>
                k0 mp' N.1.length mc' lp s.2.length lc tp' (playH H hs d).2.length tc' true w9 := by
            intro w' he h
            rw [← he] at h ⊢
            exact fin mp' mc' lp lc w' N hlens.1 hlens.2 h
          refine ix (LdI.at (rd0 e1 _ (h8.has 3 rfl)) ?_)
          by_cases c3 : d.d ≥ 3
          rotate_left
          · exact cond_f (by simp; omega) (no _ (n2no (.inl (by omega))) h8)
          refine cond_t (by simp; omega) (ix (LdI.at (rd0 e1 _ (h8.has 3 rfl)) ?_))
          by_cases c7 : d.d ≤ 7
          rotate_left
          · exact cond_f (by simp; omega) (no _ (n2no (.inr (.inr (.inl (by omega))))) h8)
          refine cond_t (by simp; omega) (ix (LdI.at (rd0 e1 _ (h8.has 3 rfl)) ?_))
          by_cases c5 : d.d = 5
          · exact cond_f (by simp [c5]) (no _ (n2no (.inr (.inl c5))) h8)
          refine cond_t (by simpa using c5) ?_
          by_cases cy : pickN hs d.y = 0
          · exact cond_f (by simp [cy]) (no _ (n2no (.inr (.inr (.inr cy)))) h8)
          refine cond_t (by simpa using cy) ?_
          have may : H.may (pickN hs d.y) = true := by unfold Hp.may; rw [(hM.live _).1 (pickN_mem cy)]; simp
          have n2ref := fun b => n2ref (by omega) b cy
          have n2root := fun a => n2root a c7 cy
          generalize pickN hs d.y = y at may cy n2ref n2root
          have h9 := h8.drew
          generalize w'.drew = w3 at h9
          clear h8 h6 h7
          -- a word more
          have yes : ∀ w', N.2 = s.2 ++ [y] → Sat [Row b2 r'.cells 42, HeapH (playH H hs d).1 (vw wb true) b, WatH wb N, Ro W S', Row b1 r.cells 42, Own 23 1 mp' N.1.length mc' (words N.1), Own 23 1 lp s.2.length lc (words s.2)] w' →
              NewC (.cells #[.int .u64 (y : Int)] 23 (0, 0)) w' fun b5 w25 => RunS Try.prog (Builtin.append_ #[22, 22] 22 #[.slice lp s.2.length lc, .slice (some ⟨b5, 0, none⟩) 1 1]) w25 fun s5p s5l s5c w26 =>
              Ld_tidemarkref9_Heap w26 ⟨b2, 0, none⟩ fun p l c n0 n1 n2 n3 n4 n5 n6 n7 n8 n9 n10 n11 n12 n13 n14 n15 => St_tidemarkref9_Heap w26 ⟨b1, 0, none⟩ p l c n0 n1 n2 n3 n4 n5 n6 n7 n8 n9 n10 n11 n12 n13 n14 n15 fun w9 =>
                k0 mp' N.1.length mc' s5p s5l s5c tp' (playH H hs d).2.length tc' true w9 := by
            intro w' he h
            refine NewC.ofRow h fun b5 w1 h1 => ?_
            refine RunS.own eok_u64 h1 7 rfl (news := [.int .u64 (y : Int)]) (fun a ha j u hj => by cases ha; rw [add_mk]; exact h1.cell 0 rfl (by rw [Nat.zero_add]; exact hj)) rfl (by simp [Value.oneCell']) (by omega) (by simp only [maxLen]; omega) fun lp' lc' w2 h2 => ?_
            have e2 : s.2.length + 1 = N.2.length := by rw [he]; simp
            rw [e2] at h2 ⊢
            have h3 : Sat [Row b2 r'.cells 42, HeapH (playH H hs d).1 (vw wb true) b, WatH wb N, Ro W S', Row b1 r.cells 42, Own 23 1 mp' N.1.length mc' (words N.1), Own 23 1 lp' N.2.length lc' (words N.2)] w2 := by
              have e3 : words s.2 ++ [Value.int .u64 (y : Int)] = words N.2 := by rw [he, words_snoc]
              rw [← e3]
              exact Sat.drop h2
            exact fin mp' mc' lp' lc' w2 N hlens.1 hlens.2 h3
          refine ⟨fun w => ∃ (L : List HP) (i : Nat), L[i]? = some (Row b1 r.cells 42) ∧ Has S' w ∧ Sat L w, ⟨_, 4, rfl, h9.has 3 rfl, h9⟩, ?_⟩
          refine qRh (r := r) (b := b1) (T := 42) (fun w ⟨L, i, hi, _, h⟩ => ⟨_, h.pull i hi⟩) ?_
          refine ix ?_
          refine ⟨d.x, fun w ⟨L, i, hi, hw, h⟩ => LdI.at (rd e1 1 _ rfl w hw) rfl, ?_⟩
          refine (pick_c h9 3 rfl (hT.mono e1) d.x).mono ?_
          rintro e w4 ⟨rfl, rfl⟩
          refine ⟨_, rfl, ⟨_, 4, rfl, h9.has 3 rfl, h9⟩, ?_⟩
          refine (at9_c (r := r) h9 3 rfl (hM.mono e1) hl20 (pickN hs d.x)).mono ?_
          rintro e w5 ⟨rfl, h10⟩
          refine ⟨_, rfl, ?_⟩
          have h11 := h10.drew
          generalize w5.drew = w6 at h11
          clear h9 h10
          have hw := h11.has 3 rfl
          refine ix (LdI.at (rd0 e1 _ hw) ?_)
          by_cases c6 : d.d ≥ 6
          · -- a root
            have n2root := n2root c6
            refine cond_t (by simp; omega) (ix (LdI.at (rd e1 3 _ rfl _ hw) ?_))
            by_cases i0 : d.i ≥ 0
            · refine cond_t (by simp; omega) (ix (LdI.at (rd e1 3 _ rfl _ hw) ?_))
              by_cases i1 : d.i ≤ 15
              · refine cond_t (by simp; omega) ?_
                exact yes _ (by rw [n2root, if_pos (show Hp.rootE H d.i y = 0 by unfold Hp.rootE; rw [if_pos (by omega), if_pos may])]) h11
              · refine cond_f (by simp; omega) (ix (LdI.at (rd0 e1 _ hw) (cond_f (by simp; omega) ?_)))
                exact no _ (by rw [n2root, if_neg (by unfold Hp.rootE; rw [if_neg (by omega)]; decide)]) h11
            · refine cond_f (by simp; omega) (ix (LdI.at (rd0 e1 _ hw) (cond_f (by simp; omega) ?_)))
              exact no _ (by rw [n2root, if_neg (by unfold Hp.rootE; rw [if_neg (by omega)]; decide)]) h11
          · -- a link
            have n2ref := n2ref (by omega)
            refine cond_f (by simp; omega) (ix (LdI.at (rd0 e1 _ hw) ?_))
            refine cond_t (by simp; omega) ?_
            generalize hx2 : pickN hs d.x = x at n2ref
            by_cases hxl : x ∈ hs
            rotate_left
            · refine cond_f (by rw [numI_none hxl]; rfl) ?_
              have hlk : H.look x = none := by
                cases hk : H.look x with
                | none => rfl
                | some o => exact absurd ((hM.live x).2 (by rw [hk]; rfl)) hxl
              exact no _ (by rw [n2ref, if_neg (by simp only [Hp.refE, hlk]; decide)]) h11
            obtain ⟨o, hlk⟩ := Option.isSome_iff_exists.1 ((hM.live x).1 hxl)
            have hok := look_ok hm hlk
            have hro3 := hok.refs
            have hro : (rob H x).refs.length = o.refs := by unfold rob; rw [hlk]; dsimp only; rw [List.length_take]; omega
            obtain ⟨k, hk, hkx⟩ := numI_some hxl
            rw [hk]
            refine cond_t (by simp) (ix (LdI.at (rd e1 3 _ rfl _ hw) ?_))
            by_cases i0 : d.i ≥ 0
            · refine cond_t (by simp; omega) (ix (LdI.at (rd e1 3 _ rfl _ hw) ?_))
              refine LdS.of h11 4 rfl (off := 0) rfl rfl ?_
              refine rd_ob (hM.mono e1) hw hkx rfl fun a z _ _ _ hc => ?_
              obtain ⟨_, _, c2, _⟩ := hc _ hw
              refine LdS.cell c2 ?_
              rw [hro]
              by_cases i1 : d.i < o.refs
              · exact cond_t (by simp; omega) (yes _ (by rw [n2ref, if_pos (show Hp.refE H x d.i y = 0 by simp only [Hp.refE, hlk]; rw [if_pos (by omega), if_pos may])]) h11)
              · exact cond_f (by simp; omega) (no _ (by rw [n2ref, if_neg (by simp only [Hp.refE, hlk]; rw [if_neg (by omega)]; decide)]) h11)
            · refine cond_f (by simp; omega) ?_
              exact no _ (by rw [n2ref, if_neg (by simp only [Hp.refE, hlk]; rw [if_neg (by omega)]; decide)]) h11
        rcases nm with ⟨m1, m2⟩ | ⟨m1, m2⟩
        · refine cond_f (by rw [m1]; simp) ?_
          rw [← m2] at h8 ⊢
          exact step2 _ _ _ h8
        · have hl1 : (playH H hs d).2.length = hs.length + 1 := by rw [m1]; simp
          refine cond_t (by rw [hl1]; simp; omega) ?_
          rw [show IntKind.wrap .i64 (((playH H hs d).2.length : Int) - 1) = (hs.length : Int) by rw [hl1, wrapI64 (by omega) (by omega)]; omega]
          refine rd_word hT' (h8.has 3 rfl) (q := hs.length) (x := nextH H.t) (by rw [m1]; simp) rfl ?_
          refine NewC.ofRow h8 fun b5 w1 h1 => ?_
          refine RunS.own eok_u64 h1 6 rfl (news := [.int .u64 (nextH H.t : Int)]) (fun a ha j u hj => by cases ha; rw [add_mk]; exact h1.cell 0 rfl (by rw [Nat.zero_add]; exact hj)) rfl (by simp [Value.oneCell']) (by omega) (by simp only [maxLen]; omega) fun mp' mc' w2 h2 => ?_
          have e2 : s.1.length + 1 = N.1.length := by rw [m2]; simp
          rw [e2] at h2 ⊢
          have h3 : Sat [Row b2 r'.cells 42, HeapH (playH H hs d).1 (vw wb true) b, WatH wb N, Ro W S', Row b1 r.cells 42, Own 23 1 mp' N.1.length mc' (words N.1), Own 23 1 lp s.2.length lc (words s.2)] w2 := by
            have e3 : words s.1 ++ [Value.int .u64 (nextH H.t : Int)] = words N.1 := by rw [m2, words_snoc]
            rw [← e3]
            exact Sat.drop h2
          exact step2 _ _ _ h3
    refine ⟨fun w => ∃ (L : List HP) (i : Nat), L[i]? = some (Row b1 r.cells 42) ∧ Has S w ∧ Sat L w, ⟨_, 3, rfl, h7.has 2 rfl, h7⟩, ?_⟩
    refine qRh (r := r) (b := b1) (T := 42) (fun w ⟨L, i, hi, _, h⟩ => ⟨_, h.pull i hi⟩) ?_
    refine ix ?_
    refine ⟨d.d, d.x, d.y, d.i, d.j, (d.w : Int), fun w ⟨L, i, hi, hw, h⟩ => LdI.at (rd0 (Ext.refl S) w hw) (LdI.at (rd (Ext.refl S) 1 _ rfl w hw) (LdI.at (rd (Ext.refl S) 2 _ rfl w hw) (LdI.at (rd (Ext.refl S) 3 _ rfl w hw) (LdI.at (rd (Ext.refl S) 4 _ rfl w hw) (LdI.at (rd (Ext.refl S) 5 _ rfl w hw) rfl))))), ?_⟩
    refine ⟨?_, ?_⟩
    · refine (watched_play on2 (by omega) h7 hs1 hs2 hM (by omega) hcn hT hz hy64).mono ?_
      rintro e w10 ⟨S', r', om', tp', tc', rfl, e1, hM', hT', h8⟩
      refine ⟨_, _, _, _, _, _, _, _, _, _, _, _, _, _, _, _, _, _, _, _, _, _, _, rfl, ?_⟩
      refine NewC.ofRow h8 fun b2 w11 h9 => ?_
      refine stRh (r := r') rfl h9 0 rfl fun w12 h10 => ?_
      exact after e1 hM' hT' h10
    · refine NewC.ofRow h7 fun b2 w10 h8 => ⟨⟨_, 4, rfl, h8.has 3 rfl, h8⟩, ?_⟩
      have h9 : Sat (HeapH H (vw wb on2) b :: WatH wb s :: Ro W S :: [Row b2 Rh.zero.cells 42, Row b1 r.cells 42, Own 23 1 mp s.1.length mc (words s.1), Own 23 1 lp s.2.length lc (words s.2)]) w10 := ((Sat.pull h8 3 rfl).pull 3 rfl).pull 3 rfl
      refine (watched_play on2 (by omega) h9 hs1 hs2 hM (by omega) hcn hT hz hy64).mono ?_
      rintro e w11 ⟨S', r', om', tp', tc', rfl, e1, hM', hT', h10⟩
      refine ⟨_, _, _, _, _, _, _, _, _, _, _, _, _, _, _, _, _, _, _, _, _, _, _, rfl, ?_⟩
      refine stRh (r := r') rfl h10 3 rfl fun w12 h11 => ?_
      exact after e1 hM' hT' (Sat.pull h11 3 rfl)
  have done3 : ∀ (on1 : Bool) w6, Sat [HeapH H (vw wb on1) b, WatH wb s, Ro W S, Row b1 r.cells 42, Own 23 1 mp s.1.length mc (words s.1), Own 23 1 lp s.2.length lc (words s.2)] w6 → k1 on1 w6 := by
    intro on1 w6 h6
    refine hk1 _ _ ?_
    unfold S_law9_HeapWatched_j3
    intro k2 hk2
    cases hto : ((q : Int) == to)
    · exact cond_f rfl (hk2 _ _ (done _ _ h6))
    · refine cond_t rfl ?_
      refine (watch_c (v' := .nilIface) rfl h6).mono ?_
      rintro e w7 ⟨rfl, h7⟩
      exact ⟨rfl, hk2 _ _ (done false _ h7)⟩
  cases hfr : ((q : Int) == fr)
  · exact cond_f rfl (done3 _ _ h5)
  · refine cond_t rfl ?_
    refine (watch_c (v' := watV wb) rfl h5).mono ?_
    rintro e w7 ⟨rfl, h7⟩
    exact ⟨rfl, done3 true _ h7⟩
end
set_option maxRecDepth 100000 in
theorem watched_lifted (os : Os) (started : os.Started) (H : Type) (enc : TypeId × Value → H) (F : Stop.Interp) :
    ReturnsInHanded {} Try.checked os 4 .any ((Rows.OpenSpec.upto Rows.heapWatchedSpec).pre6 enc Try.prog Try.f4 Rows.heapWatchedUptoRow.domain false) (((Rows.OpenSpec.upto Rows.heapWatchedSpec).at F).post enc Try.prog Try.f4 false true false false) := by
  refine returnsInHanded_of_cond (C := Try.checked) (s := Rows.OpenSpec.upto Rows.heapWatchedSpec) (k := Rows.uptoSmall) rfl own started (by kernel_rfl) Try.func4
    (OpenSpec.witness (enc := enc) (C := Try.checked) (s := Rows.OpenSpec.upto Rows.heapWatchedSpec) (k := Rows.uptoSmall) rfl false ⟨#[], #[.slice none 0 0, .int .i64 0, .int .i64 0], []⟩ 8 (by kernel_rfl) (by kernel_rfl) (by kernel_rfl)
      (x := ([.nil, .lit (.int .i64 0), .lit (.int .i64 0)], [], [])) (by kernel_rfl) rfl (by kernel_rfl)) ?_
  intro W base args ds gs before hval hW hcnd hsm _
  have hval : ∀ (j : Nat) t v, Try.f4.params[j]? = some t → args[j]? = some v → Value.okWide Try.prog W .any base t v := hval
  have hW : DataW.Whole enc Try.prog Try.f4.params.toList Rows.heapWatchedSpec.vars false W args.toList ds gs before := hW
  have hW' := hW
  obtain ⟨p, q, hA, hV, _⟩ := hW'
  rw [Try.params4] at hA hval
  obtain ⟨v0, v1, v2, d0, d1, d2, p0, p1, p2, rfl, rfl, rfl, h0, h1, h2⟩ := trodAll_three hA
  obtain ⟨a1, l1, c1, rfl⟩ := okWide_slice Try.underlying35 (hval 0 35 v0 rfl rfl)
  obtain ⟨n, rfl, rfl, rfl, wn⟩ := open_int Try.underlying3 (hval 1 3 v1 rfl rfl) h1
  obtain ⟨n2, rfl, rfl, rfl, wn2⟩ := open_int Try.underlying3 (hval 2 3 v2 rfl rfl) h2
  obtain ⟨⟨xs, hz⟩, hbk⟩ := argRows (ks := dks9) Try.underlying35 Try.underlying47 (by kernel_rfl) (by kernel_rfl) (by kernel_rfl) h0
  have hl : l1 ≤ 1048576 := by
    rcases hbk with rfl | ⟨elems, spare, rfl, rfl⟩
    · omega
    · exact small_slice (spare := spare) hsm (by simp)
  refine (watched_c W n n2 hz hl).mono fun e W' ⟨he, hs⟩ => ?_
  exact ⟨_, he, law_post (s := Rows.heapWatchedSpec) (tb := 4) laidOut (by decide +kernel) (by kernel_rfl) Try.underlying4 rfl hW ⟨rfl, rfl, rfl⟩ hs⟩

theorem watched_holds : Rows.HeapWatchedUptoSaid :=
  OpenClaim.holds_of_cond 4 Try.f4 rfl rfl rfl rfl rfl rfl rfl ⟨rfl, rfl, rfl, rfl, rfl⟩ rfl rfl rfl rfl rfl (by kernel_rfl) Try.func4 (by kernel_rfl)
    (of_decide_eq_true (by kernel_rfl)) (by unfold Func.isWrapper; first | (rw [if_pos (by decide +kernel)]; kernel_rfl) | (rw [if_neg (by decide +kernel)]; exact ⟨rfl, rfl⟩))
    (fun os started H enc _ F => watched_lifted os started H enc F)
end Go.Proofs.Ytagnepjmgkoboaa
