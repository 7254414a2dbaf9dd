
/- Trees, reached and counted: what a tree's handles lead to, how many words they take. No program in sight. -/
import Derived.Test.YtpicofkhioalkaaGreatEk
import Derived.Test.YtpicofkhioalkaaGreatZb
import Derived.Test.YtpicofkhioalkaaGreatZc
set_option maxRecDepth 100000
namespace Go.Td
open Go Go.Hm Go.Kd
def osz (ov : Lk) (x : Nat) : Nat := match ov x with | some o => o.w.length + 1 | none => 1
theorem flat_mem : ∀ {l : List (Nat × Nat)} {p : Nat × Nat}, p ∈ l -> p.1 ∈ flat l /\ p.2 ∈ flat l
 | [], p, h => by cases h
 | q :: l, p, h => by
  rcases List.mem_cons.1 h with rfl | h
  ·exact ⟨List.mem_cons_self, List.mem_cons_of_mem _ List.mem_cons_self⟩
  ·exact ⟨List.mem_cons_of_mem _ (List.mem_cons_of_mem _ (flat_mem h).1), List.mem_cons_of_mem _ (List.mem_cons_of_mem _ (flat_mem h).2)⟩
theorem node_take {inner : Bool} {l : List (Nat × Nat)} (hl : l.length <= 12) : (nodeO inner l).w.take (nodeO inner l).refs = flat l ++ List.replicate (24 - 2 * l.length) 0 := by
 show (nodeW l).take 24 = _
 unfold nodeW
 have e : (flat l ++ List.replicate (24 - 2 * l.length) 0).length = 24 := by simp only [List.length_append, flat_len, List.length_replicate]; omega
 rw [List.take_append_of_le_length (by omega), List.take_of_length_le (by omega)]
section
variable {H : Hp}
theorem refsOf_ov {x : Nat} {o : Ov} (h : H.ov x = some o) : refsOf H x = o.w.take o.refs := by
 unfold Hp.ov at h
 unfold refsOf
 cases hl : H.look x with
 | none => rw [hl] at h; cases h
 | some p => rw [hl] at h; cases h; rfl
theorem reach_step {x y : Nat} {o : Ov} (hx : Hm.Reach H x) (ho : H.ov x = some o) (hy : y ∈ o.w.take o.refs) (hl : (H.ov y).isSome = true) : Hm.Reach H y :=
 .step hx (by rw [refsOf_ov ho]; exact hy) (by rw [<- Go.Proofs.YtpicofkhioalkaaGreat.ov_isSome]; exact hl)
theorem Rep.reach : ∀ {d m : Nat} {c : Kid}, Rep H.ov (d + 1) m c -> Hm.Reach H c.x -> ∀ h ∈ c.hs, Hm.Reach H h
 | d, m, c, hR@⟨l, h1, h2, h3, h4, h5, h6⟩, hx, h, hh => by
  rw [h3] at hh
  rcases List.mem_cons.1 hh with rfl | hh
  ·exact hx
  ·obtain ⟨a, ha, hha⟩ := mem_hsOf.1 hh
   have hm : a.pr ∈ l.map Kid.pr := List.mem_map.2 ⟨a, ha, rfl⟩
   have hf := flat_mem hm
   have hin : ∀ y ∈ flat (l.map Kid.pr), y ∈ (nodeO (decide (0 < d)) (l.map Kid.pr)).w.take (nodeO (decide (0 < d)) (l.map Kid.pr)).refs := fun y hy => by
    rw [node_take (by rw [List.length_map]; exact h5)]
    exact List.mem_append_left _ hy
   have hRa := h6 a ha
   cases d with
   | zero =>
    obtain ⟨e, g1, g2, g3, g4, g5⟩ := hRa
    rw [g3] at hha
    have hha : h = e.kh := by simpa using hha
    have hk : a.k = e.kh := by unfold Kid.k; rw [g1]
    rw [hha]
    refine reach_step hx h1 (hin _ ?_) (by rw [g4]; rfl)
    rw [<- hk]; exact hf.1
   | succ d => exact Rep.reach hRa (reach_step hx h1 (hin _ hf.2) (hRa.live _ hRa.xmem)) h hha
theorem Tree.reach {t : Nat} {es : List Ent} {hs : List Nat} (h : Tree H.ov t es hs) (ht : Hm.Reach H t) : ∀ z ∈ hs, Hm.Reach H z := by
 intro z hz
 rcases h.at_ with ⟨h1, h2, h3⟩ | ⟨d, c, h1, h2, h3, h4⟩
 ·rw [h2] at hz
  have hz : z = t := by simpa using hz
  rw [hz]; exact ht
 ·rcases List.mem_cons.1 (h4.mem_iff.1 hz) with rfl | hz
  ·exact ht
  ·exact h2.reach (reach_step ht h1 (by simp [treeO]) (h2.live _ h2.xmem)) z hz
end
end Go.Td
/- Three trees in a heap that is collected: what is kept behind each deed, and behind each deed of the collector's. -/
set_option maxRecDepth 100000
namespace Go.Proofs.YtpicofkhioalkaaGreat
open Go Go.Lw Go.Wd Go.Am Go.Tb Go.Hm Go.Kd Go.Td
structure Tt where
 t : Nat
 es : List Ent
 us : List Nat
structure Pt (M : Nat) (C : Cd) (cnt : Nat) (T : Nat -> Tt) (xs : List Nat) (r : Nat) : Prop where
 cx : CxI M C.ph C.ro C.mv C.H C.st cnt
 tree : ∀ k, k < 3 -> Tree C.H.ov (T k).t (T k).es (T k).us
 val : ∀ k, k < 3 -> ∀ p ∈ kv (T k).es, p.2 = 0 ∨ p.2 ∈ xs
 key : ∀ k, k < 3 -> ∀ p ∈ kv (T k).es, p.1.length <= 16000
 dis : ∀ i j, i < 3 -> j < 3 -> i ≠ j -> ∀ z ∈ (T i).us, z ∉ (T j).us
 old : ∀ k, k < 3 -> r ∉ (T k).us /\ ∀ x ∈ xs, x ∉ (T k).us
 roots : C.H.roots = ([(T 0).t, (T 1).t, (T 2).t] ++ List.replicate 13 0).set 9 r
 rr : C.H.ov r = some ⟨9, 5, xs⟩
 xo : ∀ i x, xs[i]? = some x -> C.H.ov x = some ⟨8, 0, [i]⟩
 xl : xs.length = 5
 n : C.H.m.n = 262144
 tn : C.H.t.n = 65536
def updT (T : Nat -> Tt) (k : Nat) (es : List Ent) (us : List Nat) : Nat -> Tt := fun j => if j = k then ⟨(T k).t, es, us⟩ else T j
theorem updT_self (T : Nat -> Tt) (k : Nat) (es : List Ent) (us : List Nat) : updT T k es us k = ⟨(T k).t, es, us⟩ := by unfold updT; rw [if_pos rfl]
theorem updT_ne (T : Nat -> Tt) {k j : Nat} (es : List Ent) (us : List Nat) (h : j ≠ k) : updT T k es us j = T j := by unfold updT; rw [if_neg h]
theorem updT_t (T : Nat -> Tt) (k : Nat) (es : List Ent) (us : List Nat) (j : Nat) : (updT T k es us j).t = (T j).t := by
 unfold updT
 split
 ·rename_i h; rw [h]
 ·rfl
section
variable {M cnt r : Nat} {C C' : Cd} {T : Nat -> Tt} {xs : List Nat}
theorem Pt.tin (h : Pt M C cnt T xs r) {k : Nat} (hk : k < 3) : (T k).t ∈ (T k).us := by
 rcases (h.tree k hk).at_ with ⟨h1, h2, h3⟩ | ⟨d, c, h1, h2, h3, h4⟩
 ·rw [h2]; simp
 ·exact h4.mem_iff.2 List.mem_cons_self
theorem Pt.rt (h : Pt M C cnt T xs r) {k : Nat} (hk : k < 3) : Hm.Reach C.H (T k).t := by
 refine .root ?_ (by rw [<- ov_isSome]; exact (h.tree k hk).live _ (h.tin hk))
 rw [h.roots]
 have : k = 0 ∨ k = 1 ∨ k = 2 := by omega
 rcases this with rfl | rfl | rfl <;> simp
theorem Pt.rreach (h : Pt M C cnt T xs r) : Hm.Reach C.H r := by
 refine .root (by rw [h.roots]; simp) ?_
 rw [<- ov_isSome, h.rr]; rfl
theorem Pt.xreach (h : Pt M C cnt T xs r) {y : Nat} (hy : y ∈ xs) : Hm.Reach C.H y := by
 obtain ⟨i, hi⟩ := List.getElem?_of_mem hy
 refine reach_step h.rreach h.rr ?_ (by rw [h.xo i y hi]; rfl)
 rw [List.take_of_length_le (by show xs.length <= 5; rw [h.xl]; exact Nat.le_refl _)]
 exact hy
theorem Pt.trs (h : Pt M C cnt T xs r) (b cb mb : Nat) {k : Nat} (hk : k < 3) : TrS (engC M C.ph C.ro C.mv b cb mb) (C.H, C.st, cnt) (T k).t (T k).es (T k).us := by
 refine ⟨h.tree k hk, fun z hz => okC_reach h.cx ((h.tree k hk).reach (h.rt hk) z hz), fun e he => ?_⟩
 rcases h.val k hk (e.key, e.x) (List.mem_map.2 ⟨e, he, rfl⟩) with g | g
 ·exact .inl g
 ·exact .inr (okC_reach h.cx (h.xreach g))
theorem Pt.step (h : Pt M C cnt T xs r) {b cb mb : Nat} {k : Nat} (hk : k < 3) {s' : Hp × List Nat × Nat} {es' : List Ent} {us' : List Nat} {k' m' : Nat} (hT : TrS (engC M C.ph C.ro C.mv b cb mb) s' (T k).t es' us')
  (hS : St (engC M C.ph C.ro C.mv b cb mb) (C.H, C.st, cnt) (T k).us s' us' k' m') (hv : ∀ p ∈ kv es', p.2 = 0 ∨ p.2 ∈ xs) (hkl : ∀ p ∈ kv es', p.1.length <= 16000) :
  Pt M ⟨s'.1, s'.2.1, C.ph, C.ro, C.mv⟩ (cnt + k') (updT T k es' us') xs r := by
 have hfr : ∀ z o, C.H.ov z = some o -> z ∉ (T k).us -> s'.1.ov z = some o := fun z o hz hu => by
  have : (engC M C.ph C.ro C.mv b cb mb).ov s' z = (engC M C.ph C.ro C.mv b cb mb).ov (C.H, C.st, cnt) z := hS.frame z (by show (C.H.ov z).isSome = true; rw [hz]; rfl) hu
  exact this.trans hz
 have hc : s'.2.2 = cnt + k' := hS.mv.cost
 have hnew : ∀ z ∈ us', ∀ o, C.H.ov z = some o -> z ∈ (T k).us := fun z hz o ho => by
  rcases hS.new z hz with g | g
  ·exact g
  ·have g : C.H.ov z = none := g
   rw [ho] at g; cases g
 have hcx : CxI M C.ph C.ro C.mv s'.1 s'.2.1 s'.2.2 := hS.mv.inv
 refine ⟨by rw [<- hc]; exact hcx, fun j hj => ?_, fun j hj => ?_, fun j hj => ?_, fun i j hi hj hij z hz hzj => ?_, fun j hj => ?_, ?_, hfr _ _ h.rr (h.old k hk).1, fun i x hx => hfr _ _ (h.xo i x hx) ((h.old k hk).2 x (List.mem_of_getElem? hx)), h.xl, hS.mv.n.trans h.n, hS.mv.tn.trans h.tn⟩
 ·by_cases e : j = k
  ·subst e; rw [updT_self]; exact hT.tree
  ·rw [updT_ne _ _ _ e]
   refine (h.tree j hj).frame fun z hz => ?_
   obtain ⟨o, ho⟩ := Option.isSome_iff_exists.1 ((h.tree j hj).live z hz)
   exact (hfr z o ho (h.dis j k hj hk e z hz)).trans ho.symm
 ·by_cases e : j = k
  ·subst e; rw [updT_self]; exact hv
  ·rw [updT_ne _ _ _ e]; exact h.val j hj
 ·by_cases e : j = k
  ·subst e; rw [updT_self]; exact hkl
  ·rw [updT_ne _ _ _ e]; exact h.key j hj
 ·by_cases e1 : i = k
  ·subst e1
   rw [updT_self] at hz
   rw [updT_ne _ _ _ (Ne.symm hij)] at hzj
   obtain ⟨o, ho⟩ := Option.isSome_iff_exists.1 ((h.tree j hj).live z hzj)
   exact h.dis i j hi hj hij z (hnew z hz o ho) hzj
  ·rw [updT_ne _ _ _ e1] at hz
   by_cases e2 : j = k
   ·subst e2
    rw [updT_self] at hzj
    obtain ⟨o, ho⟩ := Option.isSome_iff_exists.1 ((h.tree i hi).live z hz)
    exact h.dis i j hi hj hij z hz (hnew z hzj o ho)
   ·rw [updT_ne _ _ _ e2] at hzj
    exact h.dis i j hi hj hij z hz hzj
 ·by_cases e : j = k
  ·subst e
   rw [updT_self]
   refine ⟨fun hr => (h.old j hj).1 (hnew r hr _ h.rr), fun x hx hu => ?_⟩
   obtain ⟨i, hi⟩ := List.getElem?_of_mem hx
   exact (h.old j hj).2 x hx (hnew x hu _ (h.xo i x hi))
  ·rw [updT_ne _ _ _ e]; exact h.old j hj
 ·rw [updT_t, updT_t, updT_t]
  exact (hS.mv.roots).trans h.roots
theorem Pt.less {M' : Nat} (h : Pt M C cnt T xs r) (hcx : CxI M' C'.ph C'.ro C'.mv C'.H C'.st cnt) (hle : Less C.H C'.H) : Pt M' C' cnt T xs r := by
 have hov : ∀ z, Hm.Reach C.H z -> C'.H.ov z = C.H.ov z := fun z hz => by
  obtain ⟨o, ho⟩ := Option.isSome_iff_exists.1 hz.live
  obtain ⟨p, hp, e1, e2, e3⟩ := hle.some hz ho
  unfold Hp.ov
  rw [ho, hp]
  simp only [Option.map_some, e1, e2, e3]
 exact ⟨hcx, fun k hk => (h.tree k hk).frame fun z hz => hov z ((h.tree k hk).reach (h.rt hk) z hz), h.val, h.key, h.dis, h.old, by rw [hle.roots]; exact h.roots, by rw [hov _ h.rreach]; exact h.rr, fun i x hx => by rw [hov _ (h.xreach (List.mem_of_getElem? hx))]; exact h.xo i x hx, h.xl, by rw [hle.n]; exact h.n, by rw [hle.tn]; exact h.tn⟩
theorem ci_le {B : Nat} (h : Ci B C) : C.ph <= 2 := by
 rcases h.ph with ⟨a, _⟩ | ⟨a, _⟩ | ⟨a, _⟩ <;> omega
theorem Pt.start (h : Pt M C cnt T xs r) (hp : C.ph = 0) : Pt (M + 1048576) (startC C) cnt T xs r /\ roB (startC C) = roB C + 1 /\ (startC C).H.m.top <= C.H.m.top /\ (startC C).H.t.count <= C.H.t.count := by
 have ci : Ci (2 * cnt) C := h.cx.ci
 have s1 := start_ok ci hp
 have hob := objs_le s1.ci.wf
 have hmv : mvB C <= M + cnt := h.cx.mvb
 have h1 := mv_le C
 have e : mvB (startC C) = C.mv + ((startC C).H.m.low.length + (startC C).H.m.high.length) := rfl
 refine ⟨h.less ⟨s1.ci, pk_start ci, ?_, ci_le s1.ci⟩ s1.less, ?_, Nat.le_of_eq (start_top ci), sp_count ci s1⟩
 ·show mvB (startC C) <= _
  omega
 ·have e1 : roB (startC C) = C.ro + 1 := rfl
  have e2 : roB C = C.ro := by unfold roB; rw [if_pos hp, Nat.add_zero]
  rw [e1, e2]
theorem Pt.steps (h : Pt M C cnt T xs r) (hc : cnt <= 1000000) (hp : C.ph ≠ 0) (n : Nat) : Pt M (stepC n C).1 cnt T xs r /\ roB (stepC n C).1 = roB C /\ (stepC n C).1.H.m.top <= C.H.m.top /\ (stepC n C).1.H.t.count <= C.H.t.count := by
 have ci : Ci (2 * cnt) C := h.cx.ci
 have hB : 2 * cnt + 2 < 4294967296 := by omega
 have s1 := step_ok hB ci hp n
 have hmv : mvB C <= M + cnt := h.cx.mvb
 have h1 := mvB_step hB ci hp n
 exact ⟨h.less ⟨s1.ci, pk_step ci h.cx.pk n, Nat.le_trans h1 hmv, ci_le s1.ci⟩ s1.less, roB_step hp n, step_top hB ci hp n, sp_count ci s1⟩
theorem Pt.full (h : Pt M C cnt T xs r) (hc : cnt <= 1000000) : Pt (M + 1048576) (fullC C) cnt T xs r /\ roB (fullC C) = roB C + 1 /\ (fullC C).H.m.top <= C.H.m.top /\ (fullC C).H.t.count <= C.H.t.count := by
 have ci : Ci (2 * cnt) C := h.cx.ci
 have hB : 2 * cnt + 2 < 4294967296 := by omega
 obtain ⟨s1, p1⟩ := end_ok hB ci
 have s2 := start_ok s1.ci p1
 obtain ⟨s3, p3⟩ := end_ok hB s2.ci
 have hob := objs_le s2.ci.wf
 have hmv : mvB C <= M + cnt := h.cx.mvb
 obtain ⟨m1, r1⟩ := mvB_end hB ci
 obtain ⟨m2, r2⟩ := mvB_end hB s2.ci
 have e : mvB (startC (endC C)) = (endC C).mv + ((startC (endC C)).H.m.low.length + (startC (endC C)).H.m.high.length) := rfl
 have e1 : roB (startC (endC C)) = (endC C).ro + 1 := rfl
 have t1 := end_top hB ci
 have t2 := start_top s1.ci
 have t3 := end_top hB s2.ci
 have c1 := sp_count ci s1
 have c2 := sp_count s1.ci s2
 have c3 := sp_count s2.ci s3
 have ef : fullC C = endC (startC (endC C)) := rfl
 rw [ef]
 refine ⟨h.less ⟨s3.ci, pk0 (by rw [p3]; decide), ?_, ci_le s3.ci⟩ ((s1.less.trans s2.less).trans s3.less), ?_, by omega, by omega⟩
 ·have : mvB (endC (startC (endC C))) = (endC (startC (endC C))).mv := by unfold mvB; rw [if_pos p3, Nat.add_zero]
  show mvB (endC (startC (endC C))) <= _
  omega
 ·have : roB (endC (startC (endC C))) = (endC (startC (endC C))).ro := by unfold roB; rw [if_pos p3, Nat.add_zero]
  omega
end
theorem Pt.mono {M M' cnt r : Nat} {C : Cd} {T : Nat -> Tt} {xs : List Nat} (h : Pt M C cnt T xs r) (hm : M <= M') : Pt M' C cnt T xs r :=
 ⟨⟨h.cx.ci, h.cx.pk, by have := h.cx.mvb; omega, h.cx.le⟩, h.tree, h.val, h.key, h.dis, h.old, h.roots, h.rr, h.xo, h.xl, h.n, h.tn⟩
section
variable {M b cb mb cnt : Nat} {C : Cd} {F : List HP} {w : World}
theorem toC (M cnt : Nat) (h : Sat (CL C b cb mb F) w) : Sat ((engC M C.ph C.ro C.mv b cb mb).S (C.H, C.st, cnt) F) w := by
 have h1 : Sat (HeapH C.H (wvC C.ph mb cb) b :: CoR b cb mb C.ph C.ro C.mv :: MkH b mb C.st (C.ph == 1) :: F) w := h
 exact Sat.p1 (Sat.join (Sat.p1 ((Sat.pull h1 1 rfl).pull 2 rfl)))
theorem ofC {p ro mv : Nat} {s : Hp × List Nat × Nat} (h : Sat ((engC M p ro mv b cb mb).S s F) w) : Sat (CL ⟨s.1, s.2.1, p, ro, mv⟩ b cb mb F) w := by
 have h1 : Sat (CoR b cb mb p ro mv :: MkH b mb s.2.1 (p == 1) :: HeapH s.1 (wvC p mb cb) b :: F) w := Sat.split (Sat.p1 h)
 exact Sat.pull h1 2 rfl
end
section
variable {M b cb mb cnt k r : Nat} {C : Cd} {T : Nat -> Tt} {xs : List Nat} {F : List HP} {w : World}
def PAft (M : Nat) (C : Cd) (cnt : Nat) (T : Nat -> Tt) (xs : List Nat) (r k : Nat) (key : K) (b cb mb : Nat) (F : List HP) (es' : List Ent) (w' : World) : Prop :=
 ∃ (C' : Cd) (cnt' : Nat) (us' : List Nat), Pt M C' cnt' (updT T k es' us') xs r /\ roB C' = roB C /\ cnt' <= cnt + 10 /\ 8 * C'.H.m.top <= 8 * C.H.m.top + 1920 + key.length /\ C'.H.t.count <= C.H.t.count + 10 /\ Sat (CL C' b cb mb F) w'
theorem pput_c (h : Pt M C cnt T xs r) (hk : k < 3) (hs : Sat (CL C b cb mb F) w) (hn : (T k).es.length <= 1000000) {key : K} (hkl : key.length <= 16000) {kp : Option Addr} {kl kc : Nat} (hl : kl = key.length) (hkr : RdB F kp key) {x : Nat} (hx : x = 0 ∨ x ∈ xs)
  (htop : C.H.m.top + 240 + key.length / 8 <= C.H.m.n) (hcnt : C.H.t.count + 10 <= C.H.t.n) :
  Calls Tryz.prog 11 #[.pointer (some ⟨b, 0, none⟩), .int .u64 ((T k).t : Int), .slice kp kl kc, .int .u64 (x : Int)] w fun e w' => ∃ (es' : List Ent) (old : Nat) (had : Bool) (A o C0 : KV),
   e = .returned (.tuple #[.int .u64 (old : Int), .bool had, .int .i64 0]) /\ Cut (kv (T k).es) key A o C0 /\ kv es' = A ++ (key, x) :: C0 /\ (o = [] /\ had = false /\ old = 0 ∨ o = [(key, old)] /\ had = true) /\ es'.length <= (T k).es.length + 1 /\ PAft M C cnt T xs r k key b cb mb F es' w' := by
 refine (gput_c (E := engC M C.ph C.ro C.mv b cb mb) (toC M cnt hs) h.cx (h.trs b cb mb hk) hn (by omega) hl hkr (hx.imp id fun g => okC_reach h.cx (h.xreach g)) htop hcnt).mono ?_
 rintro e w' ⟨s', es', us', k', m', old, had, A, o, C0, rfl, c1, c2, c3, c4, c5, c6, c7, h'⟩
 have e1 : es'.length = (A ++ (key, x) :: C0).length := by rw [<- c2, kv_len]
 have e2 : (T k).es.length = (A ++ o ++ C0).length := by rw [<- c1.eq, kv_len]
 have ht : s'.1.m.top = C.H.m.top + m' := c5.mv.top
 have hc : s'.1.t.count = C.H.t.count + k' := c5.mv.cnt
 refine ⟨es', old, had, A, o, C0, rfl, c1, c2, c3, by simp at e1 e2; omega, ⟨s'.1, s'.2.1, C.ph, C.ro, C.mv⟩, cnt + k', us', h.step hk c4 c5 ?_ ?_, rfl, by omega, by show 8 * s'.1.m.top <= _; omega, by show s'.1.t.count <= _; omega, ofC h'⟩
 ·intro z hz
  rw [c2] at hz
  rcases List.mem_append.1 hz with hz | hz
  ·exact h.val k hk z (by rw [c1.eq]; simp [hz])
  ·rcases List.mem_cons.1 hz with rfl | hz
   ·exact hx
   ·exact h.val k hk z (by rw [c1.eq]; simp [hz])
 ·intro z hz
  rw [c2] at hz
  rcases List.mem_append.1 hz with hz | hz
  ·exact h.key k hk z (by rw [c1.eq]; simp [hz])
  ·rcases List.mem_cons.1 hz with rfl | hz
   ·exact hkl
   ·exact h.key k hk z (by rw [c1.eq]; simp [hz])
theorem ptake_c (h : Pt M C cnt T xs r) (hk : k < 3) (hs : Sat (CL C b cb mb F) w) (hn : (T k).es.length <= 1000000) {key : K} (hkl : key.length <= 16000) {kp : Option Addr} {kl kc : Nat} (hl : kl = key.length) (hkr : RdB F kp key) :
  Calls Tryz.prog 10 #[.pointer (some ⟨b, 0, none⟩), .int .u64 ((T k).t : Int), .slice kp kl kc] w fun e w' => ∃ (es' : List Ent) (old : Nat) (had : Bool) (A o C0 : KV),
   e = .returned (.tuple #[.int .u64 (old : Int), .bool had, .int .i64 0]) /\ Cut (kv (T k).es) key A o C0 /\ kv es' = A ++ C0 /\ (o = [] /\ had = false /\ old = 0 ∨ o = [(key, old)] /\ had = true) /\ es'.length <= (T k).es.length + 1 /\ PAft M C cnt T xs r k key b cb mb F es' w' := by
 refine (eTake_c (E := engC M C.ph C.ro C.mv b cb mb) (toC M cnt hs) h.cx (h.trs b cb mb hk) hn (by omega) hl hkr).mono ?_
 rintro e w' ⟨s', es', us', old, had, A, o, C0, rfl, c1, c2, c3, c4, c5, h'⟩
 have e1 : es'.length = (A ++ C0).length := by rw [<- c2, kv_len]
 have e2 : (T k).es.length = (A ++ o ++ C0).length := by rw [<- c1.eq, kv_len]
 have ht : s'.1.m.top = C.H.m.top + 0 := c5.mv.top
 have hc : s'.1.t.count = C.H.t.count + 0 := c5.mv.cnt
 refine ⟨es', old, had, A, o, C0, rfl, c1, c2, c3, by simp at e1 e2; omega, ⟨s'.1, s'.2.1, C.ph, C.ro, C.mv⟩, cnt + 0, us', h.step hk c4 c5 ?_ ?_, rfl, by omega, by show 8 * s'.1.m.top <= _; omega, by show s'.1.t.count <= _; omega, ofC h'⟩
 ·intro z hz
  rw [c2] at hz
  rcases List.mem_append.1 hz with hz | hz <;> exact h.val k hk z (by rw [c1.eq]; simp [hz])
 ·intro z hz
  rw [c2] at hz
  rcases List.mem_append.1 hz with hz | hz <;> exact h.key k hk z (by rw [c1.eq]; simp [hz])
end
end Go.Proofs.YtpicofkhioalkaaGreat
/- The law's 'asks': Get, Seek and Last tell what the list says. -/
set_option maxRecDepth 100000
namespace Go.Td
open Go Go.Hm Go.Kd
theorem cut_eq {l A o C : KV} {key : K} (h : Cut l key A o C) : ∀ j p, l[j]? = some p -> (p.1 = key ↔ o ≠ [] /\ j = A.length) := by
 intro j p hp
 rw [h.eq, List.append_assoc] at hp
 rcases Nat.lt_trichotomy j A.length with hj | hj | hj
 ·rw [List.getElem?_append_left hj] at hp
  have := h.lo p (List.mem_of_getElem? hp)
  refine ⟨fun e => ?_, fun e => by omega⟩
  rw [e, lt_irrefl] at this; cases this
 ·rw [hj, List.getElem?_append_right (Nat.le_refl _), Nat.sub_self] at hp
  rcases h.at_ with e | ⟨y, e⟩
  ·rw [e] at hp
   have hp : C[0]? = some p := hp
   have := h.hi p (List.mem_of_getElem? hp)
   refine ⟨fun e2 => ?_, fun e2 => absurd e e2.1⟩
   rw [e2, lt_irrefl] at this; cases this
  ·rw [e] at hp
   simp at hp
   rw [e, <- hp]
   exact ⟨fun _ => ⟨by simp, hj⟩, fun _ => rfl⟩
 ·rw [List.getElem?_append_right (by omega)] at hp
  have hm : p ∈ C := by
   rcases h.at_ with e | ⟨y, e⟩
   ·rw [e] at hp; exact List.mem_of_getElem? hp
   ·rw [e] at hp
    rw [List.getElem?_append_right (by simp; omega)] at hp
    exact List.mem_of_getElem? hp
  have := h.hi p hm
  refine ⟨fun e => ?_, fun e => by omega⟩
  rw [e, lt_irrefl] at this; cases this
theorem last_take {l : KV} {q : Nat} (hq : q <= l.length) : (l.take q).getLast? = if q = 0 then none else l[q - 1]? := by
 rw [List.getLast?_eq_getElem?, List.length_take, Nat.min_eq_left hq]
 split
 ·rename_i e; rw [e]; simp
 ·rename_i e; rw [List.getElem?_take_of_lt (by omega)]
end Go.Td
namespace Go.Proofs.YtpicofkhioalkaaGreat
open Go Go.Lw Go.Wd Go.Am Go.Tb Go.Hm Go.Kd Go.Td
def hereI (m : Nat) (o : KV) (j : Nat) : Int := if o ≠ [] /\ m < j then (m : Int) else -1
def upI (m j : Nat) : Int := if m < j then (m : Int) else -1
def lowI (q j : Nat) : Int := ((min j q : Nat) : Int) - 1
section
variable {H : Hp} {v : Value} {b : Nat} {F : List HP} {w : World}
set_option maxHeartbeats 2000000 in
theorem asks_c (hs : Sat (HeapH H v b :: F) w) {t : Nat} {es : List Ent} {us : List Nat} (hT : Tree H.ov t es us) (hn : es.length <= 1000000) {p : Option Addr} {n c : Nat} (hnl : n = (kv es).length) (hr : RdE F p (kv es))
  {key : K} {kp : Option Addr} {kl kc : Nat} (hl : kl = key.length) (hk : RdB F kp key) :
  Calls Tryz.prog 32 #[.pointer (some ⟨b, 0, none⟩), .int .u64 (t : Int), .slice p n c, .slice kp kl kc] w (Ret (.bool true) (Sat (HeapH H v b :: F))) := by
 subst hnl
 have hlk := kv_len es
 have hsr := srt_kv.1 hT.srt
 refine S_law13_asks_ok _ _ _ _ _ _ _ _ _ _ ?_
 unfold S_law13_asks
 by_cases hlong : 16384 < kl
 ·obtain ⟨D, y, hD8, ho⟩ := depth_le hT hn
  have hE : ofE H t kl = 1 := by
   unfold ofE
   rw [ho]
   simp [treeO, hlong]
  have htu := ov_lt hs ho
  refine (tget_no hs htu kp kl kc (by omega)).mono ?_
  rintro e w1 ⟨rfl, h1⟩
  refine ⟨_, _, _, rfl, ?_⟩
  refine (tseek_no h1 htu kp kl kc (by omega)).mono ?_
  rintro e w2 ⟨rfl, h2⟩
  refine ⟨_, _, _, _, _, _, rfl, ?_⟩
  refine (tlast_no h2 htu kp kl kc (by omega)).mono ?_
  rintro e w3 ⟨rfl, h3⟩
  refine ⟨_, _, _, _, _, _, rfl, cond_t (by simp; omega) ?_⟩
  rw [hE]
  exact cond_t rfl (cond_t rfl ⟨rfl, h3⟩)
 have hkl : key.length <= 16384 := by omega
 refine (tget_c hs hT hn hkl hl hk).mono ?_
 rintro e w1 ⟨A, o, C, gx, gh, hcut, hgo, rfl, h1⟩
 refine ⟨_, _, _, rfl, ?_⟩
 refine (tseek_c h1 hT hn hkl hl hk).mono ?_
 rintro e w2 ⟨A2, C2, hAC2, hA2, hC2, hans2⟩
 obtain ⟨sp, sl, sc, rfl, h2⟩ := ansP_H hans2
 refine ⟨_, _, _, _, _, _, rfl, ?_⟩
 refine (tlast_c h2 hT hn hkl hl hk.tail).mono ?_
 rintro e w3 ⟨A3, C3, hAC3, hk0, hk3, hans3⟩
 obtain ⟨tp, tl, tc, rfl, h3⟩ := ansP_H hans3
 refine ⟨_, _, _, _, _, _, rfl, cond_f (by simp; omega) ?_⟩
 refine hk.tail.tail.tail.run h3 hl ?_
 have hcl := cut_lt hcut hsr
 have hce := cut_eq hcut
 have hml : A.length <= (kv es).length := by rw [hcut.eq]; simp only [List.length_append]; omega
 obtain ⟨eA2, eC2⟩ := part_at (P := fun q => lt q.1 key = true) hAC2 hA2 (fun c hc h => by have := hC2 c hc; rw [this] at h; cases h) hml hcl
 have hsk : C2.head? = (kv es)[A.length]? := by rw [eC2, List.head?_drop]
 obtain ⟨q, hq, hqA⟩ : ∃ q, q = (if key = [] then (kv es).length else A.length) /\ A3 = (kv es).take q := by
  by_cases e : key = []
  ·refine ⟨_, rfl, ?_⟩
   rw [if_pos e, List.take_length, hAC3, hk0 e, List.append_nil]
  ·obtain ⟨a1, a2⟩ := hk3 e
   refine ⟨_, rfl, ?_⟩
   rw [if_neg e]
   exact (part_at (P := fun q => lt q.1 key = true) hAC3 a1 (fun c hc h => by have := a2 c hc; rw [this] at h; cases h) hml hcl).1
 have hql : q <= (kv es).length := by rw [hq]; split <;> omega
 have hlast : A3.getLast? = if q = 0 then none else (kv es)[q - 1]? := by rw [hqA, last_take hql]
 have hgo2 : (o ≠ [] /\ gh = true /\ (kv es)[A.length]? = some (key, gx)) ∨ (o = [] /\ gh = false /\ gx = 0) := by
  rcases hgo with ⟨a1, a2, a3⟩ | ⟨a1, a2⟩
  ·exact .inr ⟨a1, a2, a3⟩
  ·refine .inl ⟨by rw [a1]; simp, a2, ?_⟩
   rw [hcut.eq, a1, List.append_assoc, List.getElem?_append_right (Nat.le_refl _), Nat.sub_self]
   rfl
 rw [hsk] at h3
 rw [hlast] at h3
 rw [hsk, hlast]
 clear hans2 hans3 hAC2 hAC3 hA2 hC2 eA2 eC2 hk0 hk3 h1 h2 hsk hlast hqA hgo
 have hmn : (kv es).length <= 1000000 := by omega
 generalize hl0 : kv es = l at *
 generalize hm0 : A.length = m at *
 refine ⟨fun here up low i w' => ∃ j : Nat, i = j /\ j <= l.length /\ here = hereI m o j /\ up = upI m j /\ low = lowI q j /\ Sat (HeapH H v b :: AnsH (if q = 0 then none else l[q - 1]?) tp tl tc :: AnsH l[m]? sp sl sc :: F) w', fun _ _ _ i _ => ((l.length : Int) - i).toNat,
  ⟨0, rfl, by omega, by unfold hereI; rw [if_neg (by omega)], by unfold upI; rw [if_neg (by omega)], by unfold lowI; omega, h3⟩, ?_⟩
 clear h3
 rintro here up low i w4 ⟨j, rfl, hj, rfl, rfl, rfl, h4⟩
 unfold S_law13_asks_l0
 have hR : RdE (HeapH H v b :: AnsH (if q = 0 then none else l[q - 1]?) tp tl tc :: AnsH l[m]? sp sl sc :: F) p l := hr.tail.tail.tail
 by_cases hlt : j < l.length
 ·refine cond_t (by simp; omega) ?_
  intro k0 hk0 k1 hk1
  obtain ⟨z, hz⟩ : ∃ z, l[j]? = some z := ⟨_, List.getElem?_eq_getElem hlt⟩
  have e1 := hce j z hz
  have e2 := hcl j z hz
  have next : ∀ here' up' low', here' = hereI m o (j + 1) -> up' = upI m (j + 1) -> low' = lowI q (j + 1) -> k0 here' up' low' w4 := by
   rintro here' up' low' rfl rfl rfl
   refine hk0 _ _ _ _ ?_
   unfold S_law13_asks_j2
   exact ⟨⟨j + 1, by rw [wrapI64 (by omega) (by omega)]; omega, by omega, rfl, rfl, rfl, h4⟩, by rw [wrapI64 (by omega) (by omega)]; dsimp only; omega⟩
  have low : ∀ here' up', here' = hereI m o (j + 1) -> up' = upI m (j + 1) -> S_law13_asks_j0 p l.length (str key) (lowI q j) (j : Int) k0 here' up' w4 := by
   intro here' up' a1 a2
   unfold S_law13_asks_j0
   refine idxE hR h4 rfl rfl hz fun a c0 c1 => LdStr.at c0 ?_
   rw [str_toList, str_toList]
   by_cases hb : lt z.1 key = true
   ·refine cond_t hb (next _ _ _ a1 a2 ?_)
    have := e2.1 hb
    unfold lowI
    have : j < q := by rw [hq]; split <;> omega
    omega
   ·have hb' : Op.bytesLess z.1 key = false := by simpa [lt] using hb
    refine cond_f hb' ?_
    by_cases hke : key = []
    ·refine cond_t (by rw [hke, show (⟨#[]⟩ : ByteArray) = str [] from rfl, str_toList]; rfl) (next _ _ _ a1 a2 ?_)
     rw [if_pos hke] at hq
     unfold lowI; omega
    ·refine cond_f (by
      rw [show (⟨#[]⟩ : ByteArray) = str [] from rfl, str_toList]
      cases key with
      | nil => exact absurd rfl hke
      | cons x y => rfl) (next _ _ _ a1 a2 ?_)
     rw [if_neg hke] at hq
     have : ¬ j < m := fun hh => hb (e2.2 hh)
     unfold lowI; omega
  have up : ∀ here', here' = hereI m o (j + 1) -> S_law13_asks_j1 p l.length (str key) (upI m j) (lowI q j) (j : Int) k0 here' w4 := by
   intro here' a1
   unfold S_law13_asks_j1
   intro k2 hk2
   refine idxE hR h4 rfl rfl hz fun a c0 c1 => LdStr.at c0 ?_
   rw [str_toList, str_toList]
   by_cases hb : lt z.1 key = true
   ·have hjm := e2.1 hb
    refine cond_f (by have hb' : Op.bytesLess z.1 key = true := hb
                      rw [hb']; rfl) (hk2 _ _ (low _ _ a1 ?_))
    unfold upI; rw [if_neg (by omega), if_neg (by omega)]
   ·have hjm : ¬ j < m := fun hh => hb (e2.2 hh)
    have hb' : Op.bytesLess z.1 key = false := by simpa [lt] using hb
    refine cond_t (by rw [hb']; rfl) ?_
    by_cases hjm2 : m < j
    ·refine cond_f (by unfold upI; rw [if_pos hjm2]; simp) (hk2 _ _ (low _ _ a1 ?_))
     unfold upI; rw [if_pos hjm2, if_pos (by omega)]
    ·refine cond_t (by unfold upI; rw [if_neg hjm2]; rfl) (hk2 _ _ (low _ _ a1 ?_))
     unfold upI; rw [if_pos (by omega)]; omega
  refine idxE hR h4 rfl rfl hz fun a c0 c1 => LdStr.at c0 ?_
  rw [str_toList, str_toList]
  by_cases hze : z.1 = key
  ·obtain ⟨a1, a2⟩ := e1.1 hze
   refine cond_t (by rw [hze]; simp) (hk1 _ _ (up _ ?_))
   unfold hereI; rw [if_pos ⟨a1, by omega⟩]; omega
  ·refine cond_f (by simpa using hze) (hk1 _ _ (up _ ?_))
   unfold hereI
   by_cases hh : o ≠ [] /\ m < j
   ·rw [if_pos hh, if_pos ⟨hh.1, by omega⟩]
   ·have : ¬ (o ≠ [] /\ m < j + 1) := fun h2 => by
     by_cases e : j = m
     ·exact hze (e1.2 ⟨h2.1, e⟩)
     ·exact hh ⟨h2.1, by omega⟩
    rw [if_neg hh, if_neg this]
 have hje : j = l.length := by omega
 subst hje
 refine cond_f (by simp) ?_
 intro k3 hk3
 have k3ok : k3 w4 := by
  refine hk3 _ ?_
  unfold S_law13_asks_j4
  intro k4 hk4
  have k4ok : ∀ w5, Sat (HeapH H v b :: AnsH (if q = 0 then none else l[q - 1]?) tp tl tc :: AnsH l[m]? sp sl sc :: F) w5 -> k4 w5 := by
   intro w5 h5
   refine hk4 _ ?_
   unfold S_law13_asks_j3
   have h6 := h5.drew
   refine cond_t rfl ?_
   by_cases hq0 : q = 0
   ·rw [if_pos hq0] at h6 ⊢
    obtain ⟨⟨rfl, rfl, rfl⟩, h7⟩ := ansH_nil (Sat.pull h6 1 rfl)
    refine cond_t (by unfold lowI; rw [hq0]; simp) (cond_f rfl (cond_t rfl (cond_t rfl ⟨rfl, h7.del 1 rfl⟩)))
   ·rw [if_neg hq0] at h6 ⊢
    obtain ⟨z, hz⟩ : ∃ z, l[q - 1]? = some z := ⟨_, List.getElem?_eq_getElem (by omega)⟩
    rw [hz] at h6 ⊢
    obtain ⟨⟨rfl, hzl, g, rfl⟩, h7⟩ := ansH_open (Sat.pull h6 1 rfl)
    have hlow : lowI q l.length = ((q - 1 : Nat) : Int) := by unfold lowI; omega
    rw [hlow]
    refine cond_t (by simp) (cond_t rfl ?_)
    refine (RdB.str 0 rfl ⟨_, rfl⟩).run h7 rfl ?_
    refine idxE hr.tail.tail.tail h7 rfl rfl hz fun a c0 c1 => LdStr.at c0 ?_
    refine cond_t (by simp) ?_
    refine idxE hr.tail.tail.tail h7 rfl rfl hz fun a c0 c1 => LdI.at c1 ?_
    exact cond_t (by simp) ⟨rfl, (h7.drop).del 1 rfl⟩
  refine cond_f rfl ?_
  have h5 := h4.drew
  cases hz : l[m]? with
  | none =>
   have hnm : ¬ m < l.length := fun hh => by rw [List.getElem?_eq_getElem hh] at hz; cases hz
   have h5' := h5
   rw [hz] at h5
   obtain ⟨⟨rfl, rfl, rfl⟩, h7⟩ := ansH_nil (Sat.pull h5 2 rfl)
   refine cond_f (by unfold upI; rw [if_neg hnm]; rfl) (cond_f rfl (cond_t rfl (cond_f rfl (cond_f rfl (k4ok _ h5')))))
  | some z =>
   have hnm : m < l.length := kget_lt hz
   have h5' := h5
   rw [hz] at h5
   obtain ⟨⟨rfl, hzl, g, rfl⟩, h7⟩ := ansH_open (Sat.pull h5 2 rfl)
   have hup : upI m l.length = (m : Int) := by unfold upI; rw [if_pos hnm]
   rw [hup]
   refine cond_f (by simp) (cond_t rfl ?_)
   refine (RdB.str 0 rfl ⟨_, rfl⟩).run h7 rfl ?_
   refine idxE hr.tail.tail.tail h7 rfl rfl hz fun a c0 c1 => LdStr.at c0 ?_
   refine cond_f (by simp) ?_
   refine idxE hr.tail.tail.tail h7 rfl rfl hz fun a c0 c1 => LdI.at c1 ?_
   refine cond_f (by simp) (cond_f rfl (k4ok _ h5'))
 refine cond_f rfl ?_
 rcases hgo2 with ⟨a1, rfl, a3⟩ | ⟨a1, rfl, rfl⟩
 ·have hnm : m < l.length := kget_lt a3
  have hh : hereI m o l.length = (m : Int) := by unfold hereI; rw [if_pos ⟨a1, hnm⟩]
  rw [hh]
  refine cond_f (by simp) (cond_t rfl ?_)
  refine idxE hR h4 rfl rfl a3 fun a c0 c1 => LdI.at c1 ?_
  exact cond_f (by simp) (cond_f rfl k3ok)
 ·have hh : hereI m o l.length = -1 := by unfold hereI; rw [if_neg (fun hh => hh.1 a1)]
  rw [hh]
  exact cond_f rfl (cond_f rfl (cond_t rfl (cond_f rfl k3ok)))
end
end Go.Proofs.YtpicofkhioalkaaGreat
/- What 'Check' comes to while objects slide: the arena may be open, and only what is reached need hold live handles. -/
set_option maxRecDepth 100000
namespace Go.Am
open Go Go.Lw Go.Wd Go.Hm
def pos (m : Am) (j : Nat) : Nat := if j < m.low.length then osz (m.low.take j) else bif m.op then m.hi + osz (m.high.take (j - m.low.length)) else osz m.low
theorem osz_pos {l : List Ob} (h : 0 < l.length) : 0 < osz l := by
 cases l with
 | nil => simp at h
 | cons o l => simp only [osz]; omega
theorem pos_first {m : Am} (h : m.WF) : m.next 0 = pos m 0 := by
 unfold Am.next pos
 cases ho : m.op with
 | false =>
  by_cases hl : 0 < m.low.length
  ·rw [if_pos hl]; simp [osz]
  ·rw [if_neg hl]
   have : m.low = [] := List.eq_nil_of_length_eq_zero (by omega)
   rw [this]; rfl
 | true =>
  by_cases hl : 0 < m.low.length
  ·rw [if_pos hl]
   have := osz_pos hl
   have e : (0 == osz m.low) = false := by simp; omega
   simp [e, osz]
  ·rw [if_neg hl]
   have : m.low = [] := List.eq_nil_of_length_eq_zero (by omega)
   rw [this]; simp [osz]
theorem pos_last {m : Am} (h : m.WF) : pos m (m.low.length + m.high.length) = m.top := by
 unfold pos Am.top
 rw [if_neg (by omega)]
 cases ho : m.op with
 | false => rfl
 | true =>
  simp only [cond_true]
  rw [show m.low.length + m.high.length - m.low.length = m.high.length by omega, List.take_length]
theorem osz_take_lt2 : ∀ {l : List Ob} {i j : Nat}, i < j -> j <= l.length -> osz (l.take i) < osz (l.take j)
 | [], i, j, h, hj => by simp at hj; omega
 | o :: l, 0, j + 1, h, hj => by simp only [List.take_zero, List.take_succ_cons, osz]; omega
 | o :: l, i + 1, j + 1, h, hj => by
  have := osz_take_lt2 (l := l) (i := i) (j := j) (by omega) (by simpa using hj)
  simp only [List.take_succ_cons, osz]; omega
theorem pos_step {m : Am} (h : m.WF) {j : Nat} (hj : j < m.low.length + m.high.length) : ∃ o, m.find (pos m j) = some o /\ m.next (pos m j + 1 + o.w.length) = pos m (j + 1) := by
 by_cases hl : j < m.low.length
 ·have ho : m.low[j]? = some m.low[j] := List.getElem?_eq_getElem hl
  generalize m.low[j] = o at ho
  have hsu := osz_take_succ ho
  have e : pos m j = osz (m.low.take j) := by unfold pos; rw [if_pos hl]
  refine ⟨o, ?_, ?_⟩
  ·rw [e]
   have := findL_pos (k := 0) ho
   rw [Nat.zero_add] at this
   unfold Am.find
   rw [this]; rfl
  ·rw [e, <- hsu]
   by_cases hl2 : j + 1 < m.low.length
   ·have hlt := osz_take_lt2 (l := m.low) hl2 (Nat.le_refl _)
    rw [List.take_length] at hlt
    unfold Am.next pos
    rw [if_pos hl2]
    have e2 : (osz (m.low.take (j + 1)) == osz m.low) = false := by simp; omega
    rw [e2, Bool.and_false]; rfl
   ·have e3 : j + 1 = m.low.length := by omega
    rw [e3, List.take_length]
    unfold Am.next pos
    rw [if_neg (by omega), Nat.sub_self]
    cases ho2 : m.op <;> simp [osz]
 ·have hop : m.op = true := by
   cases ho : m.op with
   | true => rfl
   | false => have := (h.shut ho).2; rw [this] at hj; simp at hj; omega
  have hg := h.gap hop
  obtain ⟨k, rfl⟩ := Nat.exists_eq_add_of_le (Nat.le_of_not_lt hl)
  have hk : k < m.high.length := by omega
  have ho : m.high[k]? = some m.high[k] := List.getElem?_eq_getElem hk
  generalize m.high[k] = o at ho
  have hsu := osz_take_succ ho
  have e : ∀ q, pos m (m.low.length + q) = m.hi + osz (m.high.take q) := fun q => by
   unfold pos; rw [if_neg (by omega), hop]; simp
  refine ⟨o, ?_, ?_⟩
  ·rw [e]
   have := findL_pos (k := m.hi) ho
   unfold Am.find
   rw [findL_above (by omega), this]; rfl
  ·rw [e, Nat.add_assoc m.low.length, e, hsu]
   unfold Am.next
   have e2 : (m.hi + osz (m.high.take k) + 1 + o.w.length == osz m.low) = false := by simp; omega
   rw [e2, Bool.and_false]
   simp only [cond_false]
   omega
theorem pos_grow {m : Am} (h : m.WF) {j : Nat} {o : Ob} (hj : j < m.low.length + m.high.length) (ho : m.find (pos m j) = some o) (hn : m.next (pos m j + 1 + o.w.length) = pos m (j + 1)) : pos m j < pos m (j + 1) := by
 rw [<- hn]
 unfold Am.next
 cases hc : (m.op && (pos m j + 1 + o.w.length == osz m.low)) with
 | false => simp only [cond_false]; omega
 | true =>
  simp only [Bool.and_eq_true, beq_iff_eq] at hc
  have := h.gap hc.1
  simp only [cond_true]; omega
end Go.Am
namespace Go.Proofs.YtpicofkhioalkaaGreat
open Go Go.Lw Go.Wd Go.Am Go.Tb Go.Hm
section
variable {H : Hp} {v : Value} {b : Nat} {F : List HP} {w : World}
theorem check2_c (hs : Sat (HeapH H v b :: F) w) (hcr : ∀ y ∈ H.roots, H.may y = true) (hcf : ∀ x ∈ order H, ∀ y ∈ refsOf H x, H.may y = true) : Calls Tryz.prog 33 #[.pointer (some ⟨b, 0, none⟩)] w (Ret (.int .i64 0) (Sat (HeapH H v b :: F))) := by
 obtain ⟨hm, ba, bt, h0⟩ := heap_open hs
 have hmost := hm.tab.most
 have hol := (order_met (H := H)).len hm
 refine S_heap_Heap_Check_ok _ _ _ ?_
 unfold S_heap_Heap_Check
 simp only [onSome_some]
 refine LdP.of h0 0 rfl (off := 1) rfl (add_mk _ _ _) ?_
 refine (live_c (h0.pull 2 rfl)).mono ?_
 rintro e w1 ⟨p, l, c, rfl, rfl, h1⟩
 refine ⟨_, _, _, rfl, ?_⟩
 have h2 : Sat (HeapH H v b :: Own 32 1 p H.t.live.length c (words H.t.live) :: F) w1 := heap_shut hm (ba := ba) (bt := bt) (((h1.pull 1 rfl).pull 3 rfl).pull 3 rfl)
 have hll := live_len H.t
 clear h0 h1
 refine ⟨fun i w => ∃ k : Nat, i = k /\ k <= H.t.live.length /\ Sat (HeapH H v b :: Own 32 1 p H.t.live.length c (words H.t.live) :: F) w, fun i _ => (H.t.live.length - i).toNat, ⟨0, rfl, by omega, h2⟩, ?_⟩
 rintro i w2 ⟨k, rfl, hk, h3⟩
 unfold S_heap_Heap_Check_l4
 simp only [onSome_some]
 by_cases hlt : k < H.t.live.length
 ·refine cond_t (by simp; omega) ?_
  have hx : H.t.live[k]? = some (H.t.live[k]'hlt) := List.getElem?_eq_getElem hlt
  generalize H.t.live[k]'hlt = x at hx
  obtain ⟨i, hi⟩ := live_mem hm.tab (List.mem_of_getElem? hx)
  have hu := live_u64 hm.tab (List.mem_of_getElem? hx)
  obtain ⟨o, g1, g2, g3, g4⟩ := look_find hm hi
  refine own_word h3 1 rfl rfl hx rfl ?_
  obtain ⟨_, ba, bt, h4⟩ := heap_open h3
  refine LdP.of h4 0 rfl (off := 1) rfl (add_mk _ _ _) ?_
  refine (slot_c (h4.pull 2 rfl) hu).mono ?_
  rintro e w3 ⟨rfl, rfl⟩
  rw [hi]
  refine ⟨_, _, rfl, ?_⟩
  refine (hfind_c h3 hu).mono ?_
  rintro e w4 ⟨rfl, h5⟩
  rw [g1]
  refine ⟨_, _, _, _, _, _, _, rfl, ?_⟩
  refine NewC.ofRow h5 fun d w5 h6 => ?_
  refine st5 h6 0 rfl fun w6 h7 => ?_
  refine cond_f rfl ?_
  refine LdI.of h7 0 rfl (off := 4) rfl (add_mk _ _ _) ?_
  refine cond_f (by simp [g3]) ?_
  rw [wrapI64 (by omega) (by omega)]
  exact ⟨⟨k + 1, by omega, by omega, h7.drop⟩, by first | omega | (dsimp only; omega)⟩
 ·refine cond_f (by simp; omega) ?_
  have h3 : Sat (HeapH H v b :: F) w2 := h3.p1.drop
  clear h2 hs
  obtain ⟨_, ba, bt, h4⟩ := heap_open h3
  refine LdP.of h4 0 rfl (off := 0) rfl rfl ?_
  refine (first2 (h4.pull 1 rfl)).mono ?_
  rintro e w3 ⟨rfl, rfl⟩
  refine ⟨_, rfl, ?_⟩
  clear h4
  have hle := hm.am.top
  have hmm := hm.am.most
  rw [pos_first hm.am]
  have htl := pos_last hm.am
  refine ⟨fun a w => ∃ j : Nat, a = (pos H.m j : Nat) /\ j <= H.m.low.length + H.m.high.length /\ Sat (HeapH H v b :: F) w, fun a _ => (H.m.top - a).toNat, ⟨0, rfl, by omega, h3⟩, ?_⟩
  rintro a w3 ⟨j, rfl, hj, h4⟩
  unfold S_heap_Heap_Check_l3
  simp only [onSome_some]
  obtain ⟨_, ba, bt, h5⟩ := heap_open h4
  refine LdP.of h5 0 rfl (off := 0) rfl rfl ?_
  refine (top2 (h5.pull 1 rfl)).mono ?_
  rintro e w4 ⟨rfl, rfl⟩
  refine ⟨_, rfl, ?_⟩
  by_cases hjl : j < H.m.low.length + H.m.high.length
  ·obtain ⟨o, hfo, hnext⟩ := pos_step hm.am hjl
   have hft := hm.am.find_top hfo
   refine cond_t (by simp; omega) ?_
   refine LdP.of h5 0 rfl (off := 0) rfl rfl ?_
   refine (head2 (h5.pull 1 rfl) _).mono ?_
   rw [findI_nat, hfo]
   rintro e w5 ⟨rfl, h6⟩
   refine ⟨_, _, _, _, _, _, rfl, ?_⟩
   refine NewC.ofRow h6 fun d w6 h7 => ?_
   refine st5 h7 0 rfl fun w7 h8 => ?_
   refine cond_f rfl ?_
   have h9 : Sat (Row d [.int .i64 (o.tag : Nat), .int .i64 (o.refs : Nat), .int .i64 (o.w.length : Nat), .bool o.mark, .int .i64 (o.owner : Nat)] 115 :: Arena H.m ba :: Row b (hrow ba bt H.roots v) 106 :: Tbl H.t bt :: F) w7.drew := h8.drew
   generalize w7.drew = w8 at h9
   refine ⟨fun w => Sat (Row d [.int .i64 (o.tag : Nat), .int .i64 (o.refs : Nat), .int .i64 (o.w.length : Nat), .bool o.mark, .int .i64 (o.owner : Nat)] 115 :: Arena H.m ba :: Row b (hrow ba bt H.roots v) 106 :: Tbl H.t bt :: F) w, h9, ?_⟩
   refine LdPQ.row (fun w hw => ⟨_, hw.pull 2 rfl⟩) (off := 1) rfl (add_mk _ _ _) ?_
   refine LdIQ.row (fun w hw => ⟨_, hw⟩) (off := 4) rfl (add_mk _ _ _) ?_
   obtain ⟨s, k1, k2, k3⟩ := hm.back _ _ hfo
   have hown := get_lt k1
   have htl := hm.tab.len
   refine (of_c (h9.pull 3 rfl) _).mono ?_
   rintro e w9 ⟨rfl, rfl⟩
   rw [if_neg (by omega), Int.toNat_natCast, if_pos (by simp [Tab.takenAt, k1, k2])]
   refine ⟨_, _, rfl, cond_f rfl ?_⟩
   refine LdP.of h9 2 rfl (off := 1) rfl (add_mk _ _ _) ?_
   have hfd : H.t.find (hnd (H.t.genAt o.owner) o.owner) = some o.owner := find_of (by omega) k1 k2 (genAt_of k1).symm
   have hu : hnd (H.t.genAt o.owner) o.owner < 18446744073709551616 := by
    have := hm.tab.genAt_lt o.owner
    unfold hnd; omega
   refine (at_c (h9.pull 3 rfl) hu).mono ?_
   rintro e w9 ⟨rfl, rfl⟩
   rw [hfd]
   refine ⟨_, _, rfl, ?_⟩
   rw [tfind_at hfd k1, k3]
   refine cond_f (by simp) ?_
   refine LdP.of h9 2 rfl (off := 0) rfl rfl ?_
   refine (next2 (h9.pull 1 rfl) _).mono ?_
   rw [findI_nat, hfo]
   rintro e w9 ⟨rfl, h10⟩
   refine ⟨_, _, rfl, cond_f rfl ?_⟩
   rw [Int.toNat_natCast, hnext]
   have h11 : Sat (Arena H.m ba :: Row d _ _ :: Row b (hrow ba bt H.roots v) 106 :: Tbl H.t bt :: F) w9 := h10
   have hgr := pos_grow hm.am hjl hfo hnext
   refine ⟨⟨j + 1, rfl, by omega, heap_shut hm (ba := ba) (bt := bt) (h11.p1.drop.p1)⟩, by first | omega | (dsimp only; omega)⟩
  ·have hjl : j = H.m.low.length + H.m.high.length := by omega
   subst hjl
   rw [htl]
   refine cond_f (by simp) ?_
   refine roots_ld h5 0 rfl hm.rlen fun n0 n1 n2 n3 n4 n5 n6 n7 n8 n9 n10 n11 n12 n13 n14 n15 hv => ?_
   clear h5
   refine ⟨fun i w => ∃ k : Nat, i = k /\ k <= 16 /\ Sat (HeapH H v b :: F) w, fun i _ => (16 - i).toNat, ⟨0, rfl, by omega, h4⟩, ?_⟩
   rintro i w4 ⟨k, rfl, hk, h5⟩
   unfold S_heap_Heap_Check_l2
   by_cases hlt : k < 16
   ·refine cond_t (by simp; omega) ?_
    have hr := hm.rlen
    have hx : H.roots[k]? = some (H.roots[k]'(by omega)) := List.getElem?_eq_getElem (by omega)
    have hmem := List.getElem_mem (l := H.roots) (n := k) (by omega)
    refine idx_roots hv hr hx ?_
    refine (may_c h5 (hm.r64 _ hmem)).mono ?_
    rintro e w5 ⟨rfl, rfl⟩
    rw [hcr _ hmem, if_pos rfl]
    refine ⟨_, rfl, cond_f rfl ?_⟩
    rw [wrapI64 (by omega) (by omega)]
    exact ⟨⟨k + 1, by omega, by omega, h5⟩, by first | omega | (dsimp only; omega)⟩
   ·refine cond_f (by simp; omega) ?_
    refine (walk_c h5).mono ?_
    rintro e w5 ⟨p, c, r, rfl, h6⟩
    refine ⟨_, _, _, _, rfl, ?_⟩
    refine ⟨fun i w => ∃ k : Nat, i = k /\ k <= (order H).length /\ Sat (HeapH H v b :: Own 32 1 p (order H).length c (words (order H)) :: Blk r (numObj (order H)) :: F) w, fun i _ => ((order H).length - i).toNat, ⟨0, rfl, by omega, h6⟩, ?_⟩
    rintro i w6 ⟨k, rfl, hk, h7⟩
    unfold S_heap_Heap_Check_l1
    by_cases hlt : k < (order H).length
    ·refine cond_t (by simp; omega) ?_
     have hx : (order H)[k]? = some ((order H)[k]'hlt) := List.getElem?_eq_getElem hlt
     generalize (order H)[k]'hlt = x at hx
     obtain ⟨o, ho⟩ := order_look (List.mem_of_getElem? hx)
     have hro := (look_ok hm ho).refs; have hzo := (look_ok hm ho).size
     refine own_word h7 1 rfl rfl hx rfl ?_
     refine (hhead_c h7 (look_lt hm ho)).mono ?_
     rintro e w7 ⟨rfl, h8⟩
     rw [ho]
     refine ⟨_, _, _, _, rfl, ?_⟩
     refine ⟨fun j w => ∃ q : Nat, j = q /\ q <= o.refs /\ Sat (HeapH H v b :: Own 32 1 p (order H).length c (words (order H)) :: Blk r (numObj (order H)) :: F) w, fun j _ => (o.refs - j).toNat, ⟨0, rfl, by omega, h8⟩, ?_⟩
     rintro j w8 ⟨q, rfl, hq, h9⟩
     unfold S_heap_Heap_Check_l0
     by_cases hqr : q < o.refs
     ·refine cond_t (by simp; omega) ?_
      have href : Hp.ref H x (q : Int) = (o.w.getD q 0, 0) := by simp only [Hp.ref, ho]; rw [if_pos (by omega), Int.toNat_natCast]
      refine (href_c h9 (look_lt hm ho) q).mono ?_
      rw [href]
      rintro e w9 ⟨rfl, h10⟩
      refine ⟨_, _, rfl, ?_⟩
      refine (may_c h10 (w_u64 hm ho q)).mono ?_
      rintro e w10 ⟨rfl, rfl⟩
      rw [hcf x (List.mem_of_getElem? hx) _ (List.mem_of_getElem? (refsOf_get hm ho hqr)), if_pos rfl]
      refine ⟨_, rfl, cond_f rfl ?_⟩
      rw [wrapI64 (by omega) (by omega)]
      exact ⟨⟨q + 1, by omega, by omega, h10⟩, by first | omega | (dsimp only; omega)⟩
     ·refine cond_f (by simp; omega) ?_
      rw [wrapI64 (by omega) (by omega)]
      exact ⟨⟨k + 1, by omega, by omega, h9⟩, by first | omega | (dsimp only; omega)⟩
    ·exact cond_f (by simp; omega) ⟨rfl, h7.p1.drop.p1.drop⟩
end
end Go.Proofs.YtpicofkhioalkaaGreat
