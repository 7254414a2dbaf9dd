
/- What is stored stays live, deed behind deed; ref9's Live. -/
import Derived.Test.YtdfdmboljidhnaaH9g
set_option maxRecDepth 100000
namespace Go.Proofs.Ytdfdmboljidhnaa
open Go Go.Lw Go.Wd Go.Am Go.Tb Go.Hm
section
variable {H : Hp} {hs : List Nat}
theorem closed_new (n k : Nat) : (Hp.new n k).Closed := by
  refine ⟨fun x hx => ?_, fun x y hy => ?_⟩
  · have := List.eq_of_mem_replicate hx
    subst this
    rfl
  · unfold refsOf at hy
    rw [new_look] at hy
    cases hy
theorem closed_rooted (h : H.Closed) {i y : Nat} (hy : H.may y = true) : (H.rooted i y).Closed := by
  refine ⟨fun x hx => ?_, fun x z hz => h.refs x z hz⟩
  rcases List.mem_or_eq_of_mem_set hx with a | rfl
  · exact h.roots x a
  · exact hy
theorem closed_put (hm : H.WF) (h : H.Closed) {x j y : Nat} {o : Ob} (ho : H.look x = some o) (hy : j < o.refs → H.may y = true) : (H.set x (o.put j y)).Closed := by
  have hw : (o.put j y).w.length = o.w.length := by simp [Ob.put]
  have hmay : ∀ z, (H.set x (o.put j y)).may z = H.may z := fun z => by unfold Hp.may; rw [set_isSome hm ho hw]
  refine ⟨fun z hz => by rw [hmay]; exact h.roots z hz, fun z u hu => ?_⟩
  rw [hmay]
  unfold refsOf at hu
  rw [set_look hm ho hw] at hu
  by_cases e : z = x
  · rw [if_pos e] at hu
    have hu : u ∈ (o.w.set j y).take o.refs := hu
    have hold : u ∈ o.w.take o.refs → H.may u = true := fun hh => h.refs x u (by unfold refsOf; rw [ho]; exact hh)
    rw [List.take_set] at hu
    by_cases hj : j < o.refs
    · rcases List.mem_or_eq_of_mem_set hu with a | rfl
      · exact hold a
      · exact hy hj
    · rw [List.set_eq_of_length_le (by rw [List.length_take]; omega)] at hu
      exact hold hu
  · rw [if_neg e] at hu
    exact h.refs z u hu
theorem closed_made (hm : H.WF) (h : H.Closed) (hf : ¬ H.t.full) {tag refs size : Nat} : (H.made tag refs size).Closed := by
  have hlk := made_look hm (tag := tag) (refs := refs) (size := size) hf
  have hmay : ∀ z, H.may z = true → (H.made tag refs size).may z = true := fun z hz => by
    unfold Hp.may at hz ⊢
    rw [hlk]
    by_cases e : z = nextH H.t
    · rw [if_pos e]; simp
    · rw [if_neg e]; exact hz
  refine ⟨fun z hz => hmay z (h.roots z hz), fun z u hu => ?_⟩
  unfold refsOf at hu
  rw [hlk] at hu
  by_cases e : z = nextH H.t
  · rw [if_pos e] at hu
    have hu : u ∈ (List.replicate size 0).take refs := hu
    have := List.eq_of_mem_replicate (List.mem_of_mem_take hu)
    subst this
    rfl
  · rw [if_neg e] at hu
    exact hmay u (h.refs z u hu)
theorem closed_play (hm : H.WF) (h : H.Closed) (hcn : hs.length = H.t.count) (d : Dd) : (playH H hs d).1.Closed := by
  unfold playH
  split
  · split
    · rename_i hE
      unfold Hp.makeE at hE
      split at hE
      · split at hE
        · cases hE
        · rename_i h1 h2
          refine closed_made hm h fun hf => h2 (.inr ((full_count hm.tab).2 hf))
      · cases hE
    · exact h
  · split
    · split
      · rename_i hE
        unfold Hp.refE at hE
        unfold Hp.setRef
        split at hE
        · cases hE
        · rename_i o ho
          rw [ho]
          split at hE
          · split at hE
            · rename_i hmay
              exact closed_put hm h ho fun _ => hmay
            · cases hE
          · cases hE
      · exact h
    · split
      · split
        · unfold Hp.setWord
          split
          · rename_i o ho
            exact closed_put hm h ho fun hj => absurd hj (by omega)
          · exact h
        · exact h
      · split
        · split
          · rename_i hE
            unfold Hp.rootE at hE
            split at hE
            · split at hE
              · rename_i hmay
                exact closed_rooted h hmay
              · cases hE
            · cases hE
          · exact h
        · exact h
end
section
variable {H : Hp} {hs : List Nat} {r : Rh} {om : List (R9 × Gq)} {w W : World} {S : Mem} {L : List HP}
set_option maxHeartbeats 4000000 in
theorem live9_c (hm : H.WF) (hS : Sat (Ro W S :: L) w) (hM : Mir S H hs r om) (hl : hs.length ≤ 1048576) : Calls Try.prog 41 #[r.agg] w (Ret (.tuple #[.int .i64 ((order H).length : Nat), .int .i64 (wordsOf H (order H) : Nat)]) (Sat (Ro W S :: L))) := by
  have hmost := hm.tab.most
  have hol := (order_met (H := H)).len hm
  refine S_ref9_Live_ok r.p r.l r.c r.a0 r.a1 r.a2 r.a3 r.a4 r.a5 r.a6 r.a7 r.a8 r.a9 r.a10 r.a11 r.a12 r.a13 r.a14 r.a15 w _ ?_
  unfold S_ref9_Live
  refine NewC.ofRow hS fun b0 w1 h1 => ?_
  refine ldRh (r := r) h1 0 rfl ?_
  refine (order9_c (r := r) hm h1 1 rfl hM hl).mono ?_
  rintro e w2 ⟨p, c, rfl, h2⟩
  refine ⟨_, _, _, rfl, ?_⟩
  refine ⟨fun n i w => ∃ (k : Nat) (Lx : List HP), i = k ∧ k ≤ (order H).length ∧ n = (wordsOf H ((order H).take k) : Nat) ∧ Sat (Own 24 1 p (order H).length c (words (order H)) :: Row b0 r.cells 44 :: Ro W S :: Lx) w ∧ (∀ w, Sat (Own 24 1 p (order H).length c (words (order H)) :: Row b0 r.cells 44 :: Ro W S :: Lx) w → Sat (Ro W S :: L) w), fun _ i _ => ((order H).length - i).toNat, ⟨0, L, rfl, by omega, rfl, h2, fun w h => h.drop.drop⟩, ?_⟩
  clear h1 h2 hS
  rintro n i w3 ⟨k, Lx, rfl, hk, rfl, h6, hout⟩
  unfold S_ref9_Live_l0
  by_cases hlt : k < (order H).length
  rotate_left
  · refine cond_f (by simp; omega) ?_
    rw [List.take_of_length_le (by omega)]
    exact ⟨rfl, hout _ h6⟩
  refine cond_t (by simp; omega) ?_
  intro k0 hk0
  have hx : (order H)[k]? = some ((order H)[k]'hlt) := List.getElem?_eq_getElem hlt
  generalize (order H)[k]'hlt = x at hx
  obtain ⟨o, ho⟩ := order_look (List.mem_of_getElem? hx)
  have hro := (look_ok hm ho).refs; have hzo := (look_ok hm ho).size
  have hrob : rob H x = ⟨x, o.tag, o.w.take o.refs, o.w.drop o.refs⟩ := by unfold rob; rw [ho]
  have lr : (o.w.take o.refs).length = o.refs := by rw [List.length_take]; omega
  have lw : (o.w.drop o.refs).length = o.w.length - o.refs := List.length_drop
  have hxs : x ∈ hs := hM.ord (List.mem_of_getElem? hx)
  obtain ⟨q, hq, hqx⟩ := numI_some hxs
  have hsz : sz H x = o.w.length + 1 := by simp only [sz, ho]
  have hb := wordsOf_le hm ((order H).take k)
  rw [List.length_take] at hb
  have h7 := h6.drew
  generalize w3.drew = w5 at h7
  have body : ∀ (b2 : Nat) (pr pw : Option Addr) (cr cw : Nat) w,
      Sat (Row b2 [.int .u64 (x : Int), .int .i64 (o.tag : Int), .slice pr o.refs cr, .slice pw (o.w.length - o.refs) cw] 133 :: Own 24 1 p (order H).length c (words (order H)) :: Row b0 r.cells 44 :: Ro W S :: Lx) w → k0 ⟨b2, 0, none⟩ w := by
    intro b2 pr pw cr cw w6 h8
    refine hk0 _ _ ?_
    unfold S_ref9_Live_j0
    refine LdS.of h8 0 rfl (off := 2) rfl (add_mk _ _ _) (LdS.of h8 0 rfl (off := 3) rfl (add_mk _ _ _) ?_)
    have e : IntKind.wrap .i64 (IntKind.wrap .i64 (IntKind.wrap .i64 (((wordsOf H ((order H).take k) : Nat) : Int) + 1) + (o.refs : Int)) + ((o.w.length - o.refs : Nat) : Int)) = ((wordsOf H ((order H).take (k + 1)) : Nat) : Int) := by
      rw [wrapI64 (n := ((wordsOf H ((order H).take k) : Nat) : Int) + 1) (by omega) (by omega), wrapI64 (n := _ + (o.refs : Int)) (by omega) (by omega), wrapI64 (by omega) (by omega), List.take_add_one, hx, Option.toList_some, wordsOf_snoc, hsz]
      omega
    rw [e, wrapI64 (by omega) (by omega)]
    exact ⟨⟨k + 1, _, by omega, by omega, rfl, (((Sat.pull h8 3 rfl).pull 3 rfl).pull 3 rfl), fun w h => hout w ((((Sat.pull h 3 rfl).drop.pull 2 rfl).pull 2 rfl).pull 2 rfl)⟩, by first | omega | (dsimp only; omega)⟩
  have ex : ∀ {w : World} {Lx : List HP}, Sat (Own 24 1 p (order H).length c (words (order H)) :: Row b0 r.cells 44 :: Ro W S :: Lx) w → ∃ Ly, Sat (Row b0 r.cells 44 :: Ro W S :: Own 24 1 p (order H).length c (words (order H)) :: Ly) w := fun h => ⟨_, ((Sat.pull h 2 rfl).pull 2 rfl)⟩
  refine ⟨fun w => ∃ Lx, Sat (Row b0 r.cells 44 :: Ro W S :: Own 24 1 p (order H).length c (words (order H)) :: Lx) w, ex h7, ?_⟩
  refine ⟨_, _, _, fun w ⟨Lx, hw⟩ => LdS.of hw 0 rfl (off := 0) rfl rfl rfl, ?_⟩
  refine qRh (r := r) (b := b0) (T := 44) (fun w ⟨Lx, hw⟩ => ⟨_, hw⟩) ?_
  refine IdxC.ownAt h7 0 rfl hlt fun g hg => ?_
  refine ⟨(x : Int), fun w ⟨Lx, hw⟩ => LdI.at (hw.ownAt 2 rfl hg (by rw [Nat.mul_one]; unfold words; rw [List.getElem?_map, hx]; rfl)) rfl, ?_⟩
  have cells : ∀ {K : Addr → Prop}, (∀ a (pr pw : Option Addr) (cr cw : Nat), (∀ w, Has S w → w.cell? a = some (.int .u64 (x : Int)) ∧ w.cell? (a.add 1) = some (.int .i64 (o.tag : Int)) ∧
      w.cell? (a.add 2) = some (.slice pr o.refs cr) ∧ w.cell? (a.add 3) = some (.slice pw (o.w.length - o.refs) cw)) → K a) → IdxC r.p r.l (numI hs x) 4 K := by
    intro K hK
    refine rd_ob hM (h7.has 2 rfl) hqx hq fun a z _ hz2 hz3 hc => ?_
    rw [hrob] at hc
    dsimp only at hc
    rw [lr, lw] at hc
    exact hK a _ _ _ _ hc
  refine ⟨?_, ?_⟩
  · refine (at9_c (r := r) h7 2 rfl hM hl x).mono ?_
    rintro e w6 ⟨rfl, h8⟩
    refine ⟨_, rfl, ex h8, ?_⟩
    refine cells fun a pr pw cr cw hc => ?_
    refine ⟨_, _, _, _, _, _, _, _, fun w ⟨Lx, hw⟩ => LdI.at (hc w (hw.has 1 rfl)).1 (LdI.at (hc w (hw.has 1 rfl)).2.1 (LdS.cell (hc w (hw.has 1 rfl)).2.2.1 (LdS.cell (hc w (hw.has 1 rfl)).2.2.2 rfl))), ?_⟩
    refine NewC.ofRow h8 fun b2 w7 h9 => ?_
    refine ⟨?_, ?_⟩
    · obtain ⟨Ly, hy⟩ := ex (Sat.drop h9); exact ⟨Ly, hy⟩
    refine StC.of h9 0 rfl (off := 0) rfl rfl fun w8 h10 => ?_
    refine StC.of h10 0 rfl (off := 1) rfl (add_mk _ _ _) fun w9 h11 => ?_
    refine StC.of h11 0 rfl (off := 2) rfl (add_mk _ _ _) fun w10 h12 => ?_
    refine StC.of h12 0 rfl (off := 3) rfl (add_mk _ _ _) fun w11 h13 => ?_
    exact body b2 pr pw cr cw w11 h13
  · refine NewC.ofRow h7 fun b2 w6 h8 => ?_
    refine ⟨?_, ?_⟩
    · obtain ⟨Ly, hy⟩ := ex (Sat.drop h8); exact ⟨Ly, hy⟩
    refine (at9_c (r := r) h8 3 rfl hM hl x).mono ?_
    rintro e w7 ⟨rfl, h9⟩
    refine ⟨_, rfl, ?_, ?_⟩
    · obtain ⟨Ly, hy⟩ := ex (Sat.drop h9); exact ⟨Ly, hy⟩
    refine cells fun a pr pw cr cw hc => ?_
    refine ⟨_, _, _, _, _, _, _, _, fun w ⟨Lx, hw⟩ => LdI.at (hc w (hw.has 1 rfl)).1 (LdI.at (hc w (hw.has 1 rfl)).2.1 (LdS.cell (hc w (hw.has 1 rfl)).2.2.1 (LdS.cell (hc w (hw.has 1 rfl)).2.2.2 rfl))), ?_⟩
    refine StC.of h9 0 rfl (off := 0) rfl rfl fun w8 h10 => ?_
    refine StC.of h10 0 rfl (off := 1) rfl (add_mk _ _ _) fun w9 h11 => ?_
    refine StC.of h11 0 rfl (off := 2) rfl (add_mk _ _ _) fun w10 h12 => ?_
    refine StC.of h12 0 rfl (off := 3) rfl (add_mk _ _ _) fun w11 h13 => ?_
    exact body b2 pr pw cr cw w11 h13
end
end Go.Proofs.Ytdfdmboljidhnaa
