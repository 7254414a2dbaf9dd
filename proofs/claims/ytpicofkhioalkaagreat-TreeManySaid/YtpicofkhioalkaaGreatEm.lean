
/- The law 'awake'; an entry put where there is ample room. -/
import Derived.Test.YtpicofkhioalkaaGreatEl
set_option maxRecDepth 100000
namespace Go.Proofs.YtpicofkhioalkaaGreat
open Go Go.Lw Go.Wd Go.Am Go.Tb Go.Hm Go.Kd Go.Td
section
variable {v : Value} {b : Nat} {E : Eng v b} {s : E.σ} {F : List HP} {w : World}
/-- what Put leaves, there being ample room. -/
def PutG (E : Eng v b) (s : E.σ) (t : Nat) (es : List Ent) (us : List Nat) (key : K) (x : Nat) (F : List HP) (e : Ending) (w' : World) : Prop :=
  ∃ (s' : E.σ) (es' : List Ent) (us' : List Nat) (k m old : Nat) (had : Bool) (A o C : KV), e = .returned (.tuple #[.int .u64 (old : Int), .bool had, .int .i64 0]) ∧ Cut (kv es) key A o C ∧ kv es' = A ++ (key, x) :: C ∧ (o = [] ∧ had = false ∧ old = 0 ∨ o = [(key, old)] ∧ had = true) ∧
    TrS E s' t es' us' ∧ St E s us s' us' k m ∧ k ≤ 10 ∧ m ≤ 240 + key.length / 8 ∧ Sat (E.S s' F) w'
theorem gput_c (hs : Sat (E.S s F) w) (hi : E.inv s) {t : Nat} {es : List Ent} {us : List Nat} (hT : TrS E s t es us) (hn : es.length ≤ 1000000) {key : K} (hkl : key.length ≤ 16384) {kp : Option Addr} {kl kc : Nat} (hl : kl = key.length) (hk : RdB F kp key)
    {x : Nat} (hx : x = 0 ∨ E.ok s x) (htop : (E.H s).m.top + 240 + key.length / 8 ≤ (E.H s).m.n) (hcnt : (E.H s).t.count + 10 ≤ (E.H s).t.n) :
    Calls Tryz.prog 11 #[.pointer (some ⟨b, 0, none⟩), .int .u64 (t : Int), .slice kp kl kc, .int .u64 (x : Int)] w (PutG E s t es us key x F) := by
  obtain ⟨D, y, hD8, ho⟩ := depth_le hT.tree hn
  refine (ePut_c hs hi hT hn hkl hl hk hx ⟨_, _, ho⟩ (by unfold Hp.room; simp; omega)).mono ?_
  rintro e w' ⟨s', es', us', k, m, old, had, A, o, C, h1, h2, h3, h4, h5, h6, h7, h8, h9⟩
  exact ⟨s', es', us', k, m, old, had, A, o, C, h1, h2, h3, h4, h5, h6, by omega, by omega, h9⟩
theorem tree_empty {ov : Lk} {t : Nat} (h : ov t = some (treeO 0 0 0)) : Tree ov t [] [t] := tree_none h
end
section
variable {F : List HP} {w : World}
theorem gnd_ok {J : Hp → Nat → Prop} {n k : Nat} {H : Hp} {ts xs : List Nat} {r : Nat} (g : Gnd J n k H ts xs r) {t : Nat} (ht : t ∈ ts) (b : Nat) (hJ : Keeps J) (c : Nat) : TrS (engJ hJ b) (H, c) t [] [t] := by
  have h1 := g.tree t ht
  refine ⟨tree_none h1, fun z hz => ?_, by simp⟩
  simp only [List.mem_cons, List.not_mem_nil, or_false] at hz
  subst hz
  show (H.look z).isSome = true
  rw [← ov_isSome, h1]; rfl
theorem gnd_x {J : Hp → Nat → Prop} {n k : Nat} {H : Hp} {ts xs : List Nat} {r : Nat} (g : Gnd J n k H ts xs r) {i x : Nat} (hx : xs[i]? = some x) : (H.look x).isSome = true := by
  rw [← ov_isSome, g.xo i x hx]; rfl
set_option maxHeartbeats 1000000 in
theorem awake13_c (hs : Sat F w) : Calls Tryz.prog 8 #[] w (Ret (.bool true) (Sat F)) := by
  have hJ := keeps_any
  refine S_law13_awake_ok _ _ ?_
  unfold S_law13_awake
  refine (ground_c hJ (n := 4000) (k := 400) (m := 1) (by omega) (by omega) (by omega) (by omega) (by omega) hs).mono ?_
  rintro e w0 ⟨b, H, ts, xs, r, tp, xp, tc, xc, g, hts, hxs, rfl, h0⟩
  refine ⟨_, _, _, _, _, _, _, _, rfl, cond_f rfl ?_⟩
  obtain ⟨t, rfl⟩ : ∃ t, ts = [t] := List.length_eq_one_iff.1 hts
  obtain ⟨x, hx⟩ : ∃ x, xs[1]? = some x := ⟨_, List.getElem?_eq_getElem (by omega)⟩
  have h0 : Sat (Own 32 1 tp 1 tc (words [t]) :: Own 32 1 xp 5 xc (words xs) :: HeapH H .nilIface b :: F) w0 := Sat.pull (Sat.pull h0 2 rfl) 2 rfl
  refine ⟨fun w' => ∃ T, Sat (Own 32 1 tp 1 tc (words [t]) :: Own 32 1 xp 5 xc (words xs) :: T) w', ⟨_, h0.drew⟩, ?_⟩
  refine own_wordQ h0 0 rfl (fun w ⟨T, h⟩ => ⟨_, 0, h, rfl⟩) rfl (j := 0) rfl rfl ?_
  refine own_wordQ h0 1 rfl (fun w ⟨T, h⟩ => ⟨_, 1, h, rfl⟩) hxs.symm hx rfl ?_
  refine NewC.ofRow h0.drew fun b0 w1 h1 => ⟨⟨_, Sat.pull (Sat.pull h1 2 rfl) 2 rfl⟩, ?_⟩
  have h1 : Sat (Row b0 (bytesV [98]) 5 :: Own 32 1 tp 1 tc (words [t]) :: Own 32 1 xp 5 xc (words xs) :: HeapH H .nilIface b :: F) w1 := h1
  refine smark_c (x := [98]) (by kernel_rfl) (e := 5) (by kernel_rfl) rfl (by simp) h1 fun w2 h2 => ⟨⟨_, Sat.pull (Sat.pull h2 2 rfl) 2 rfl⟩, ?_⟩
  have hT := gnd_ok g (t := t) (by simp) b hJ 0
  have h3 : Sat ((engJ hJ b).S (H, 0) (Str 5 (some ⟨b0, 0, none⟩) 1 1 (bytesV [98]) :: Own 32 1 tp 1 tc (words [t]) :: Own 32 1 xp 5 xc (words xs) :: F)) w2 := toS hJ (Sat.pull h2 3 rfl)
  refine (gput_c (key := [98]) h3 trivial hT (by simp) (by simp) rfl (RdB.str 0 rfl ⟨_, rfl⟩) (.inr (gnd_x g hx)) (by show H.m.top + 240 + 0 ≤ H.m.n; rw [g.top, g.n]; simp; omega) (by show H.t.count + 10 ≤ H.t.n; rw [g.cnt, g.tn]; simp; omega)).mono ?_
  rintro e w3 ⟨s', es', us', k, m, old, had, A, o, C, rfl, q1, q2, q3, q4, q5, q6, q7, h4⟩
  have h4 := ofS hJ h4
  have hA : A = [] ∧ o = [] ∧ C = [] := by
    have := q1.eq
    simp at this
    exact ⟨this.1, this.2.1, this.2.2⟩
  obtain ⟨rfl, rfl, rfl⟩ := hA
  have hq3 : had = false ∧ old = 0 := by
    rcases q3 with ⟨_, a, b⟩ | ⟨a, _⟩
    · exact ⟨a, b⟩
    · simp at a
  obtain ⟨rfl, rfl⟩ := hq3
  refine ⟨_, _, _, rfl, ?_⟩
  refine own_word h4 2 rfl rfl (j := 0) rfl rfl ?_
  refine NewC.ofRow h4 fun b1 w4 h5 => ?_
  have h5 : Sat (Row b1 (bytesV [98]) 5 :: HeapH s'.1 .nilIface b :: Str 5 (some ⟨b0, 0, none⟩) 1 1 (bytesV [98]) :: Own 32 1 tp 1 tc (words [t]) :: Own 32 1 xp 5 xc (words xs) :: F) w4 := h5
  refine smark_c (x := [98]) (by kernel_rfl) (e := 5) (by kernel_rfl) rfl (by simp) h5 fun w5 h6 => ?_
  have hes : es'.length ≤ 1000000 := by rw [← kv_len, q2]; simp
  refine (tget_c (key := [98]) (Sat.pull h6 1 rfl) q4.tree hes (by simp) rfl (RdB.str 0 rfl ⟨_, rfl⟩)).mono ?_
  rintro e w6 ⟨A, o, C, y, had, c1, c2, rfl, h7⟩
  have hsr : SrtK (kv es') := srt_kv.1 q4.tree.srt
  have hg : had = true ∧ y = x := by
    have e1 := c1.eq
    rw [q2] at e1
    have hcut : Cut (kv es') [98] [] [([98], x)] [] := ⟨by rw [q2]; rfl, by simp, by simp, .inr ⟨_, rfl⟩⟩
    obtain ⟨e1, e2, e3⟩ := cut_inj hcut c1 hsr
    rw [e2] at c2
    rcases c2 with ⟨a, _⟩ | ⟨a, a2⟩
    · cases a
    · simp only [List.cons.injEq, Prod.mk.injEq, true_and, and_true] at a
      exact ⟨a2, a.symm⟩
  obtain ⟨rfl, rfl⟩ := hg
  refine ⟨_, _, _, rfl, cond_t rfl (cond_t rfl (cond_t rfl (cond_t rfl ?_)))⟩
  refine own_word h7 4 rfl hxs.symm hx rfl ⟨?_, h7.drop.drop.drop.drop.drop⟩
  simp
end
end Go.Proofs.YtpicofkhioalkaaGreat
