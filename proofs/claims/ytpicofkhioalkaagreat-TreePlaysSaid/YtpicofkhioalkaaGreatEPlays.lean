
/- 'TreePlays' answers true: whatever is put, taken and asked for in some trees, the heap being collected between, each answer is what sorted lists tell. No conditions. -/
import Derived.Test.YtpicofkhioalkaaGreatZd
import Derived.Test.YtpicofkhioalkaaGreatDg
set_option maxRecDepth 100000
namespace Go.Proofs.YtpicofkhioalkaaGreat
open Go Go.Lw Go.Wd Go.Am Go.Tb Go.Hm Go.Kd Go.Td Go.ChangeShapes Go.WideShapes Go.ChangeAt Go.RowKit
def updF {α : Type} (f : Nat -> α) (k : Nat) (x : α) : Nat -> α := fun j => if j = k then x else f j
theorem updF_kv (T : Nat -> Tt) (k : Nat) (es : List Ent) (us : List Nat) : (fun j => kv (updT T k es us j).es) = updF (fun j => kv (T j).es) k (kv es) := by
 funext j
 unfold updT updF
 split <;> rfl
abbrev rowL (p : Nat -> Option Addr) (c : Nat -> Nat) (l : Nat -> KV) : List Value := [.slice (p 0) (l 0).length (c 0), .slice (p 1) (l 1).length (c 1), .slice (p 2) (l 2).length (c 2)]
abbrev lOwn (p : Nat -> Option Addr) (c : Nat -> Nat) (l : Nat -> KV) (k : Nat) : HP := Own 49 2 (p k) (l k).length (c k) (entsV (l k))
abbrev lists3 (p : Nat -> Option Addr) (c : Nat -> Nat) (l : Nat -> KV) (b0 : Nat) (G : List HP) : List HP := lOwn p c l 0 :: lOwn p c l 1 :: lOwn p c l 2 :: Row b0 (rowL p c l) 61 :: G
theorem ls_set {p : Nat -> Option Addr} {c : Nat -> Nat} {l : Nat -> KV} {b0 k nc : Nat} {np : Option Addr} {nl : KV} {A1 A2 A3 : HP} {G : List HP} {w : World} (hk : k < 3)
  (h : Sat (Own 49 2 np nl.length nc (entsV nl) :: A1 :: A2 :: A3 :: lOwn p c l 0 :: lOwn p c l 1 :: lOwn p c l 2 :: Row b0 ((rowL p c l).set k (.slice np nl.length nc)) 61 :: G) w) :
  Sat (A1 :: A2 :: A3 :: lists3 (updF p k np) (updF c k nc) (updF l k nl) b0 G) w := by
 have hk3 : k = 0 ∨ k = 1 ∨ k = 2 := by omega
 rcases hk3 with rfl | rfl | rfl
 ·exact Sat.pull (Sat.pull (Sat.pull (h.del 4 rfl) 3 rfl) 3 rfl) 3 rfl
 ·exact Sat.pull (Sat.pull (Sat.pull (Sat.pull (h.del 5 rfl) 4 rfl) 4 rfl) 4 rfl) 4 rfl
 ·exact Sat.pull (Sat.pull (Sat.pull (Sat.pull (Sat.pull (h.del 6 rfl) 5 rfl) 5 rfl) 5 rfl) 5 rfl) 5 rfl
theorem rowL_get {p : Nat -> Option Addr} {c : Nat -> Nat} {l : Nat -> KV} {k : Nat} (hk : k < 3) : (rowL p c l)[k]? = some (.slice (p k) (l k).length (c k)) := by
 have hk3 : k = 0 ∨ k = 1 ∨ k = 2 := by omega
 rcases hk3 with rfl | rfl | rfl <;> rfl
theorem lists_get {p : Nat -> Option Addr} {c : Nat -> Nat} {l : Nat -> KV} {k : Nat} (hk : k < 3) (A : List HP) (n : Nat) (hA : A.length = n) (G : List HP) : (A ++ lOwn p c l 0 :: lOwn p c l 1 :: lOwn p c l 2 :: G)[n + k]? = some (lOwn p c l k) := by
 subst hA
 rw [List.getElem?_append_right (by omega), Nat.add_sub_cancel_left]
 have hk3 : k = 0 ∨ k = 1 ∨ k = 2 := by omega
 rcases hk3 with rfl | rfl | rfl <;> rfl
def bytesD (D : List Dd) : Nat := (D.map fun d => d.k.length).sum
theorem bytesD_take {D : List Dd} {i : Nat} {d : Dd} (h : D[i]? = some d) : bytesD (D.take (i + 1)) = bytesD (D.take i) + d.k.length := by
 rw [List.take_add_one, h]
 simp [bytesD]
theorem bytesD_le {N : Nat} : ∀ {D : List Dd}, (∀ d ∈ D, d.k.length <= N) -> bytesD D <= N * D.length
 | [], _ => by simp [bytesD]
 | p :: l, h => by
  have h1 := h p List.mem_cons_self
  have h2 := bytesD_le fun q hq => h q (List.mem_cons_of_mem _ hq)
  simp only [bytesD, List.map_cons, List.sum_cons, List.length_cons, Nat.mul_add, Nat.mul_one] at h2 ⊢
  omega
theorem bytesD_mono {D : List Dd} : ∀ {i j : Nat}, i <= j -> bytesD (D.take i) <= bytesD (D.take j) := by
 intro i j h
 have e : D.take j = D.take i ++ (D.drop i).take (j - i) := by
  have : j = i + (j - i) := by omega
  rw [this, List.take_add, Nat.add_sub_cancel_left]
 rw [e]
 simp [bytesD]
abbrev rowD (d : Dd) (kp : Option Addr) (kc : Nat) : List Value := [.int .i64 d.do_, .int .i64 d.tr, .int .i64 d.x, .slice kp d.k.length kc]
def JG (H : Hp) (c : Nat) : Prop := Gd (2 * c) H /\ H.Closed /\ H.m.op = false
theorem keepsG : Keeps JG where
 new := ⟨⟨rfl, Nat.le_refl _⟩, closed_new _ _, rfl⟩
 made := by
  rintro H c tag refs size ⟨h1, h2, h3⟩ hm hf
  refine ⟨gd_made2 hm h1 _ _ _, closed_made hm h2 hf, ?_⟩
  show (H.m.alloc _).op = false
  unfold Am.alloc
  cases hop2 : H.m.op with
  | true => rw [h3] at hop2; cases hop2
  | false => rfl
 put := by
  rintro H c x j y o ⟨h1, h2, h3⟩ hm hl hy
  exact ⟨(rw_set (o' := o.put j y) hm hl rfl).gd h1, closed_put hm h2 hl hy, h3⟩
 root := by
  rintro H c i x ⟨h1, h2, h3⟩ hm hx
  exact ⟨⟨h1.cnt, h1.tot⟩, closed_rooted h2 hx, h3⟩
theorem gnd_pt {H : Hp} {t0 t1 t2 r : Nat} {xs : List Nat} (hm : H.WF) (g : Gnd JG 262144 65536 H [t0, t1, t2] xs r) (hx : xs.length = 5) :
  Pt 0 ⟨H, [], 0, 0, 0⟩ 9 (fun k => ⟨[t0, t1, t2].getD k 0, [], [[t0, t1, t2].getD k 0]⟩) xs r := by
 have hj := g.j
 rw [hx] at hj
 have hnd := g.nd
 simp only [List.cons_append, List.nil_append, List.nodup_cons, List.mem_cons, not_or] at hnd
 obtain ⟨⟨n01, n02, n0r, n0x⟩, ⟨n12, n1r, n1x⟩, ⟨n2r, n2x⟩, _⟩ := hnd
 have ht : ∀ k, k < 3 -> ([t0, t1, t2].getD k 0) ∈ [t0, t1, t2] := fun k hk => by
  have hk3 : k = 0 ∨ k = 1 ∨ k = 2 := by omega
  rcases hk3 with rfl | rfl | rfl <;> simp
 have hold : ∀ z ∈ [t0, t1, t2], r ≠ z /\ z ∉ xs := by
  intro z hz
  simp only [List.mem_cons, List.not_mem_nil, or_false] at hz
  rcases hz with rfl | rfl | rfl
  ·exact ⟨fun e => n0r e.symm, n0x⟩
  ·exact ⟨fun e => n1r e.symm, n1x⟩
  ·exact ⟨fun e => n2r e.symm, n2x⟩
 refine ⟨⟨ci_new hm hj.1 hj.2.2 hj.2.1 0 0, pk0 (by show (0 : Nat) ≠ 1; decide), by unfold mvB; rw [if_pos rfl]; show 0 + 0 <= _; omega, by show (0 : Nat) <= 2; omega⟩, fun k hk => tree_none (g.tree _ (ht k hk)), by simp, by simp, fun i j hi hj hij z hz hzj => ?_, fun k hk => ?_, g.roots, ?_, g.xo, hx, g.n, g.tn⟩
 ·have hz : z = [t0, t1, t2].getD i 0 := by simpa using hz
  have hzj : z = [t0, t1, t2].getD j 0 := by simpa using hzj
  rw [hz] at hzj
  have hi3 : i = 0 ∨ i = 1 ∨ i = 2 := by omega
  have hj3 : j = 0 ∨ j = 1 ∨ j = 2 := by omega
  rcases hi3 with rfl | rfl | rfl <;> rcases hj3 with rfl | rfl | rfl <;> first | exact hij rfl | (simp at hzj; first | exact n01 hzj | exact n01 hzj.symm | exact n02 hzj | exact n02 hzj.symm | exact n12 hzj | exact n12 hzj.symm)
 ·have hz := hold _ (ht k hk)
  refine ⟨fun e => hz.1 (by simpa using e), fun x hx e => hz.2 ?_⟩
  have : x = [t0, t1, t2].getD k 0 := by simpa using e
  rw [<- this]; exact hx
 ·have := g.rr
  rw [hx] at this
  simpa using this
set_option maxHeartbeats 8000000 in
theorem plays_c (W : World) {p1 : Option Addr} {l1 c1 : Nat} {D : List Dd} (hz : ArgD W p1 l1 D) (hlen : ∀ d ∈ D, d.k.length <= reachBytes) : Calls Tryz.prog 7 #[.slice p1 l1 c1] W (Ret (.bool true) (Go.RowKit.Below W.heap.size W)) := by
 have hll : l1 = D.length := hz.1
 subst hll
 refine S_law13_TreePlays_ok _ _ _ _ _ ?_
 unfold S_law13_TreePlays
 have hb0 : Sat [Ro W (Mem.of W)] W := Sat.ofBase W
 refine (awake13_c hb0).mono ?_
 rintro e w0 ⟨rfl, h0⟩
 refine ⟨_, rfl, cond_f rfl ?_⟩
 by_cases hD : D.length <= 200
 rotate_left
 ·exact cond_t (by simp; omega) ⟨rfl, h0.roBelow 0 rfl (Ext.refl _)⟩
 refine cond_f (by simp; omega) ?_
 have hrb : reachBytes = 140737488351232 := rfl
 have hlen2 : ∀ d ∈ D, d.k.length <= 140737488351232 := fun d hd => by have := hlen d hd; omega
 have hall := bytesD_le hlen2
 have hall2 : bytesD D <= 140737488351232 * 200 := Nat.le_trans hall (Nat.mul_le_mul_left _ hD)
 have hpre : ∀ j, bytesD (D.take j) <= bytesD D := fun j => by
  rcases Nat.lt_or_ge j D.length with h | h
  ·have := bytesD_mono (D := D) (Nat.le_of_lt h)
   rwa [List.take_length] at this
  ·rw [List.take_of_length_le h]; exact Nat.le_refl _
 refine ⟨fun all i w' => ∃ q : Nat, i = q /\ q <= D.length /\ all = (bytesD (D.take q) : Nat) /\ Sat [Ro W (Mem.of W)] w', fun _ i _ => ((D.length : Int) - i).toNat, ⟨0, rfl, by omega, by simp [bytesD], h0⟩, ?_⟩
 clear h0 hb0
 rintro all i w1 ⟨q, rfl, hq, rfl, h1⟩
 unfold S_law13_TreePlays_l2
 by_cases hlt : q < D.length
 ·refine cond_t (by simp; omega) ?_
  obtain ⟨d, hd⟩ : ∃ d, D[q]? = some d := ⟨_, List.getElem?_eq_getElem hlt⟩
  obtain ⟨ad, kp, kc, hI, r0, r1, r2, r3, hkp, hkr⟩ := hz.at hd
  refine hI _ _ rfl (LdS.at (r3 _ (h1.has 0 rfl)) ?_)
  have e1 := bytesD_take hd
  have e2 := hpre (q + 1)
  rw [wrapI64 (n := ((bytesD (D.take q) : Nat) : Int) + (d.k.length : Int)) (by omega) (by omega), wrapI64 (n := (q : Int) + 1) (by omega) (by omega)]
  exact ⟨⟨q + 1, by omega, by omega, by rw [e1]; omega, h1⟩, by dsimp only; omega⟩
 refine cond_f (by simp; omega) ?_
 have hqe : D.take q = D := List.take_of_length_le (by omega)
 rw [hqe]
 by_cases h3 : bytesD D <= 300000
 rotate_left
 ·exact cond_t (by simp; omega) ⟨rfl, h1.roBelow 0 rfl (Ext.refl _)⟩
 refine cond_f (by simp; omega) ?_
 refine (ground_c keepsG (n := 262144) (k := 65536) (m := 3) (by omega) (by omega) (by omega) (by omega) (by omega) h1).mono ?_
 rintro e w2 ⟨b, H0, ts, xs, r, tp, xp, tc, xc, g, hts, hxs, rfl, h2⟩
 refine ⟨_, _, _, _, _, _, _, _, rfl, cond_f rfl ?_⟩
 obtain ⟨t0, t1, t2, rfl⟩ : ∃ t0 t1 t2, ts = [t0, t1, t2] := by
  match ts, hts with
  | [a, b, c], _ => exact ⟨_, _, _, rfl⟩
 refine (snew_c h2).mono ?_
 rintro e w3 ⟨cb, mb, rfl, h3'⟩
 refine ⟨_, rfl, ?_⟩
 refine NewC.ofRow h3' fun b0 w4 h4 => ?_
 refine StC.of h4 0 rfl (off := 0) rfl rfl fun w5 h5 => StC.of h5 0 rfl (off := 1) rfl (add_mk _ _ _) fun w6 h6 => StC.of h6 0 rfl (off := 2) rfl (add_mk _ _ _) fun w7 h7 => ?_
 have g7 : Sat (CL ⟨H0, [], 0, 0, 0⟩ b cb mb (lists3 (fun _ => none) (fun _ => 0) (fun _ => []) b0 [Own 32 1 tp 3 tc (words [t0, t1, t2]), Own 32 1 xp 5 xc (words xs), Ro W (Mem.of W)])) w7 := by
  have a1 : Sat (Row b0 (rowL (fun _ => none) (fun _ => 0) (fun _ => [])) 61 :: CL ⟨H0, [], 0, 0, 0⟩ b cb mb [Own 32 1 tp 3 tc (words [t0, t1, t2]), Own 32 1 xp 5 xc (words xs), Ro W (Mem.of W)]) w7 := h7
  have a2 := ((a1.ownNil 49 2).ownNil 49 2).ownNil 49 2
  exact Sat.pull (Sat.pull (Sat.pull a2 6 rfl) 6 rfl) 6 rfl
 have pt0 := gnd_pt (sat_wf (H := H0) g7) g hxs
 have htop0 : H0.m.top = 28 := by rw [g.top, hxs]; rfl
 have hcnt0 : H0.t.count = 9 := by rw [g.cnt, hxs]; rfl
 refine ⟨fun i w' => ∃ (j cnt : Nat) (C : Cd) (T : Nat -> Tt) (p : Nat -> Option Addr) (c : Nat -> Nat), i = j /\ j <= D.length /\ Pt (1048576 * j) C cnt T xs r /\ (∀ k, k < 3 -> [t0, t1, t2][k]? = some (T k).t) /\ (∀ k, k < 3 -> (T k).es.length <= j) /\ cnt <= 9 + 10 * j /\ roB C <= j /\
   8 * C.H.m.top <= 800 + 1920 * j + bytesD (D.take j) /\ C.H.t.count <= 20 + 10 * j /\ Sat (CL C b cb mb (lists3 p c (fun k => kv (T k).es) b0 [Own 32 1 tp 3 tc (words [t0, t1, t2]), Own 32 1 xp 5 xc (words xs), Ro W (Mem.of W)])) w', fun i _ => ((D.length : Int) - i).toNat,
  ⟨0, 9, ⟨H0, [], 0, 0, 0⟩, _, fun _ => none, fun _ => 0, rfl, by omega, pt0, fun k hk => ?_, by simp, by omega, ?_, by show 8 * H0.m.top <= _; omega, by show H0.t.count <= _; omega, g7⟩, ?_⟩
 ·have hk3 : k = 0 ∨ k = 1 ∨ k = 2 := by omega
  rcases hk3 with rfl | rfl | rfl <;> rfl
 ·unfold roB; rw [if_pos rfl]; show 0 + 0 <= _; omega
 clear g h2 h3' h4 h5 h6 h7 g7 pt0 h1
 rintro i w8 ⟨j, cnt, C, T, p, c, rfl, hj, pt, hT, hel, hcnt, hro, htop, htc, h8⟩
 unfold S_law13_TreePlays_l1
 have hbj := hpre j
 have hpn := pt.n
 have hptn := pt.tn
 have hmvb : mvB C <= 1048576 * j + cnt := pt.cx.mvb
 have hes : ∀ k, k < 3 -> (T k).es.length <= 1000000 := fun k hk => by have := hel k hk; omega
 have hkvl : ∀ k, (kv (T k).es).length = (T k).es.length := fun k => kv_len _
 by_cases hlt : j < D.length
 rotate_left
 ·-- in the end
  refine cond_f (by simp; omega) ?_
  refine ⟨fun i w' => ∃ q : Nat, i = q /\ q <= 3 /\ Sat (CL C b cb mb (lists3 p c (fun k => kv (T k).es) b0 [Own 32 1 tp 3 tc (words [t0, t1, t2]), Own 32 1 xp 5 xc (words xs), Ro W (Mem.of W)])) w', fun i _ => ((3 : Int) - i).toNat, ⟨0, rfl, by omega, h8⟩, ?_⟩
  clear h8
  rintro i w9 ⟨q, rfl, hq, h9⟩
  unfold S_law13_TreePlays_l0
  by_cases hq3 : q < 3
  ·refine cond_t (by simp; omega) ?_
   have h10 := h9.drew
   refine own_word h10 7 rfl rfl (hT q hq3) rfl ?_
   refine ⟨by omega, by omega, ?_⟩
   refine LdS.of h10 6 rfl (off := q) (rowL_get hq3) (by rw [add_mk, Int.toNat_natCast, Nat.zero_add, Nat.mul_one]) ?_
   have hr : RdE (CoR b cb mb C.ph C.ro C.mv :: MkH b mb C.st (C.ph == 1) :: lists3 p c (fun k => kv (T k).es) b0 [Own 32 1 tp 3 tc (words [t0, t1, t2]), Own 32 1 xp 5 xc (words xs), Ro W (Mem.of W)]) (p q) (kv (T q).es) :=
    RdE.own (2 + q) (lists_get hq3 [CoR b cb mb C.ph C.ro C.mv, MkH b mb C.st (C.ph == 1)] 2 rfl _) (ent_some h10 (lists_get hq3 [HeapH C.H (wvC C.ph mb cb) b, CoR b cb mb C.ph C.ro C.mv, MkH b mb C.st (C.ph == 1)] 3 rfl _) rfl)
   refine (holds_c h10 (pt.tree q hq3) (hes q hq3) (fun a ha => by have := pt.key q hq3 a ha; omega) rfl hr).mono ?_
   rintro e w11 ⟨rfl, h11⟩
   refine ⟨_, rfl, cond_f rfl ?_⟩
   exact ⟨⟨q + 1, by rw [wrapI64 (by omega) (by omega)]; omega, by omega, h11⟩, by rw [wrapI64 (by omega) (by omega)]; dsimp only; omega⟩
  ·refine cond_f (by simp; omega) ?_
   have hm := sat_wf h9
   have hci : Ci (2 * cnt) C := pt.cx.ci
   have hmay : (∀ y ∈ C.H.roots, C.H.may y = true) /\ ∀ x ∈ order C.H, ∀ y ∈ refsOf C.H x, C.H.may y = true := by
    have sl : Sl C.H -> (∀ y ∈ C.H.roots, C.H.may y = true) /\ ∀ x ∈ order C.H, ∀ y ∈ refsOf C.H x, C.H.may y = true := fun sl => by
     have z : ∀ y, y = 0 ∨ sv C.H y -> C.H.may y = true := fun y hy => by
      unfold Hp.may
      rcases hy with rfl | hy
      ·simp
      ·rw [sv_live hy]; simp
     exact ⟨fun y hy => z y (sl.roots y hy), fun x hx y hy => z y (sl.refs x (sl.reach ((order_iff hm).1 hx)) y hy)⟩
    rcases hci.ph with ⟨_, _, _, a⟩ | ⟨_, _, _, a⟩ | ⟨_, _, a⟩
    ·exact ⟨a.roots, fun x _ => a.refs x⟩
    ·exact ⟨a.roots, fun x _ => a.refs x⟩
    ·exact sl a
   refine (check2_c h9 hmay.1 hmay.2).mono ?_
   rintro e w10 ⟨rfl, h10⟩
   exact ⟨_, rfl, rfl, h10.roBelow 9 rfl (Ext.refl _)⟩
 refine cond_t (by simp; omega) ?_
 intro k0 hk0
 obtain ⟨d, hd⟩ : ∃ d, D[j]? = some d := ⟨_, List.getElem?_eq_getElem hlt⟩
 obtain ⟨ad, kp, kc, hI, r0, r1, r2, r3, hkp, hkr⟩ := hz.at hd
 have hbt := bytesD_take hd
 have hbj1 := hpre (j + 1)
 have next : ∀ (C' : Cd) (cnt' : Nat) (T' : Nat -> Tt) p' c' w', Pt (1048576 * (j + 1)) C' cnt' T' xs r -> (∀ k, k < 3 -> [t0, t1, t2][k]? = some (T' k).t) -> (∀ k, k < 3 -> (T' k).es.length <= j + 1) -> cnt' <= 9 + 10 * (j + 1) -> roB C' <= j + 1 ->
   8 * C'.H.m.top <= 800 + 1920 * (j + 1) + bytesD (D.take (j + 1)) -> C'.H.t.count <= 20 + 10 * (j + 1) ->
   Sat (CL C' b cb mb (lists3 p' c' (fun k => kv (T' k).es) b0 [Own 32 1 tp 3 tc (words [t0, t1, t2]), Own 32 1 xp 5 xc (words xs), Ro W (Mem.of W)])) w' -> k0 w' := by
  intro C' cnt' T' p' c' w' g1 g2 g3 g4 g5 g6 g7 g8
  refine hk0 _ ?_
  unfold S_law13_TreePlays_j4
  exact ⟨⟨j + 1, cnt', C', T', p', c', by rw [wrapI64 (by omega) (by omega)]; omega, by omega, g1, g2, g3, g4, g5, g6, g7, g8⟩, by rw [wrapI64 (by omega) (by omega)]; dsimp only; omega⟩
 refine hI _ _ rfl (LdI.at (r0 _ (h8.has 9 rfl)) (LdI.at (r1 _ (h8.has 9 rfl)) (LdI.at (r2 _ (h8.has 9 rfl)) (LdS.at (r3 _ (h8.has 9 rfl)) ?_))))
 refine NewC.ofRow h8 fun b1 w9 h9 => ?_
 refine StC.of h9 0 rfl (off := 0) rfl rfl fun w10 h10 => StC.of h10 0 rfl (off := 1) rfl (add_mk _ _ _) fun w11 h11 => StC.of h11 0 rfl (off := 2) rfl (add_mk _ _ _) fun w12 h12 => StC.of h12 0 rfl (off := 3) rfl (add_mk _ _ _) fun w13 h13 => ?_
 have g13 : Sat (CL C b cb mb (Row b1 (rowD d kp kc) 30 :: lists3 p c (fun k => kv (T k).es) b0 [Own 32 1 tp 3 tc (words [t0, t1, t2]), Own 32 1 xp 5 xc (words xs), Ro W (Mem.of W)])) w13 := by
  have a1 : Sat (Row b1 (rowD d kp kc) 30 :: CL C b cb mb (lists3 p c (fun k => kv (T k).es) b0 [Own 32 1 tp 3 tc (words [t0, t1, t2]), Own 32 1 xp 5 xc (words xs), Ro W (Mem.of W)])) w13 := h13
  exact Sat.pull (Sat.pull (Sat.pull a1 3 rfl) 3 rfl) 3 rfl
 clear h8 h9 h10 h11 h12 h13
 have same : ∀ w', Sat (CL C b cb mb (Row b1 (rowD d kp kc) 30 :: lists3 p c (fun k => kv (T k).es) b0 [Own 32 1 tp 3 tc (words [t0, t1, t2]), Own 32 1 xp 5 xc (words xs), Ro W (Mem.of W)])) w' -> k0 w' := fun w' h' =>
  next C cnt T p c w' (pt.mono (by omega)) hT (fun k hk => by have := hel k hk; omega) (by omega) (by omega) (by omega) (by omega) (h'.del 3 rfl)
 refine LdI.of g13 3 rfl (off := 1) rfl (add_mk _ _ _) ⟨by omega, ?_⟩
 obtain ⟨a0, ha0, hae0⟩ := bAnd_le d.tr 3 (by omega)
 have hae0 : bAnd .i64 d.tr 3 = (a0 : Int) := hae0
 have hmod : Int.tmod (bAnd .i64 d.tr 3) 3 = ((a0 % 3 : Nat) : Int) := by rw [hae0]; exact tmod_nat a0 3
 have hk3 : a0 % 3 < 3 := Nat.mod_lt _ (by omega)
 generalize a0 % 3 = k at hmod hk3
 intro k1 hk1
 have mid : ∀ x : Nat, (x = 0 ∨ x ∈ xs) -> k1 (x : Int) w13 := by
  intro x hx
  refine hk1 _ _ ?_
  unfold S_law13_TreePlays_j3
  refine LdS.of g13 3 rfl (off := 3) rfl (add_mk _ _ _) ?_
  intro k2 hk2
  have main : (d.k.length <= 16000 ∨ 16384 < d.k.length) -> k2 w13 := by
   intro hlen3
   refine hk2 _ ?_
   unfold S_law13_TreePlays_j2
   intro k3 hk3'
   have fin : ∀ w', k0 w' -> k3 w' := fun w' h' => hk3' _ (by unfold S_law13_TreePlays_j1; exact h')
   rw [hmod]
   have hlk : (T k).es.length <= 200 := by have := hel k hk3; omega
   have hsr := srt_kv.1 (pt.tree k hk3).srt
   have htk := hT k hk3
   obtain ⟨D8, y8, hD8, ho8⟩ := depth_le (pt.tree k hk3) (hes k hk3)
   have htu := ov_lt g13 ho8
   have laid : ∀ {C' : Cd} {cnt' : Nat} {es' : List Ent} {us' : List Nat} {w17 : World} {np : Option Addr} {nc : Nat}, d.k.length <= 16000 -> Pt (1048576 * j) C' cnt' (updT T k es' us') xs r -> roB C' = roB C -> cnt' <= cnt + 10 -> 8 * C'.H.m.top <= 8 * C.H.m.top + 1920 + d.k.length -> C'.H.t.count <= C.H.t.count + 10 -> es'.length <= (T k).es.length + 1 ->
     Sat (Own 49 2 np (kv es').length nc (entsV (kv es')) :: CL C' b cb mb (Row b1 (rowD d kp kc) 30 :: lists3 p c (fun k => kv (T k).es) b0 [Own 32 1 tp 3 tc (words [t0, t1, t2]), Own 32 1 xp 5 xc (words xs), Ro W (Mem.of W)])) w17 ->
     IdxF 3 ((k : Nat) : Int) (StC w17 (Addr.add (⟨b0, 0, none⟩) (Int.toNat ((k : Nat) : Int) * 1)) (.slice np (kv es').length nc) fun w18 => k3 w18) := by
    intro C' cnt' es' us' w17 np nc _ g1 g2 g3 g4 g5 g6 g7
    refine ⟨by omega, by omega, ?_⟩
    refine StC.of g7 8 rfl (off := k) (rowL_get hk3) (by rw [add_mk, Int.toNat_natCast, Nat.zero_add, Nat.mul_one]) fun w18 h18 => fin _ ?_
    have h19 := ls_set hk3 (h18.del 4 rfl)
    refine next C' cnt' (updT T k es' us') (updF p k np) (updF c k nc) w18 (g1.mono (by omega)) (fun i hi => by rw [updT_t]; exact hT i hi) (fun i hi => ?_) (by omega) (by omega) (by omega) (by omega) ?_
    ·have := hel i hi
     unfold updT
     split
     ·rename_i e; subst e; dsimp only; omega
     ·omega
    ·rw [updF_kv]; exact h19
   refine LdI.of g13 3 rfl (off := 0) rfl rfl ?_
   by_cases hd3 : d.do_ <= 3
   ·refine cond_t (by simpa using hd3) ?_
    refine ⟨fun w' => ∃ Z, Sat (Row b1 (rowD d kp kc) 30 :: Own 32 1 tp 3 tc (words [t0, t1, t2]) :: Z) w', ⟨_, Sat.pull (Sat.pull g13.drew 8 rfl) 4 rfl⟩, ?_⟩
    refine own_wordQ g13 8 rfl (fun w ⟨Z, h⟩ => ⟨_, 1, h, rfl⟩) rfl htk rfl ?_
    refine ⟨_, _, _, fun w' ⟨Z, h⟩ => LdS.of h 0 rfl (off := 3) rfl (add_mk _ _ _) rfl, ?_⟩
    by_cases hlong : 16384 < d.k.length
    ·have hE : ofE C.H (T k).t d.k.length = 1 := by
      unfold ofE
      rw [ho8]
      simp [treeO, hlong]
     refine (tput_no g13.drew htu kp d.k.length kc (x : Int) (by omega)).mono ?_
     rintro e w16 ⟨rfl, h16⟩
     rw [hE]
     refine ⟨_, _, _, rfl, cond_t (by simp; omega) (cond_f rfl (same w16 h16))⟩
    have hk16 : d.k.length <= 16000 := by omega
    refine (pput_c pt hk3 g13.drew (hes k hk3) (key := d.k) hk16 rfl (RdB.arg 7 rfl hkp hkr) hx (by omega) (by omega)).mono ?_
    rintro e w16 ⟨es', old, had, A, o, C0, rfl, c1, c2, c3, c4, C', cnt', us', q1, q2, q3, q4, q5, h16⟩
    refine ⟨_, _, _, rfl, cond_f (by simp; omega) ?_⟩
    refine ⟨fun w' => ∃ Z, Sat (Row b1 (rowD d kp kc) 30 :: Row b0 (rowL p c (fun k => kv (T k).es)) 61 :: Ro W (Mem.of W) :: Z) w', ⟨_, Sat.pull (Sat.pull (Sat.pull h16.drew 10 rfl) 8 rfl) 5 rfl⟩, by omega, by omega, ?_⟩
    refine ⟨_, _, _, fun w' ⟨Z, h⟩ => LdS.of h 1 rfl (off := k) (rowL_get hk3) (by rw [add_mk, Int.toNat_natCast, Nat.zero_add, Nat.mul_one]) rfl, ?_⟩
    refine ⟨_, _, _, fun w' ⟨Z, h⟩ => LdS.of h 0 rfl (off := 3) rfl (add_mk _ _ _) rfl, ?_⟩
    refine ⟨str d.k, fun w' ⟨Z, h⟩ => ?_, ?_⟩
    ·obtain ⟨bb, hb1, hb2⟩ := (RdB.arg (F := Row b1 (rowD d kp kc) 30 :: Row b0 (rowL p c (fun k => kv (T k).es)) 61 :: Ro W (Mem.of W) :: Z) 2 rfl hkp hkr).run h (l := d.k.length) (c := kc) rfl (Q := fun b => b = str d.k) rfl
     rw [hb1, hb2]
    refine (lput_c h16.drew rfl (RdE.own (4 + k) (lists_get hk3 [HeapH C'.H (wvC C'.ph mb cb) b, CoR b cb mb C'.ph C'.ro C'.mv, MkH b mb C'.st (C'.ph == 1), Row b1 (rowD d kp kc) 30] 4 rfl _) (ent_some h16.drew (lists_get hk3 [HeapH C'.H (wvC C'.ph mb cb) b, CoR b cb mb C'.ph C'.ro C'.mv, MkH b mb C'.st (C'.ph == 1), Row b1 (rowD d kp kc) 30] 4 rfl _) rfl)) (show (kv (T k).es).length <= 1000000 by rw [hkvl k]; omega) c1 hsr).mono ?_
    rintro e w17 ⟨np, nc, old', had', rfl, c3', h17⟩
    refine ⟨_, _, _, _, _, rfl, ⟨_, Sat.pull (Sat.pull (Sat.pull h17 11 rfl) 9 rfl) 6 rfl⟩, cond_f rfl ?_⟩
    have hsame : had = had' /\ old = old' := by
     rcases c3 with ⟨a1, a2, a3⟩ | ⟨a1, a2⟩ <;> rcases c3' with ⟨b1, b2, b3⟩ | ⟨b1, b2⟩
     ·exact ⟨by rw [a2, b2], by rw [a3, b3]⟩
     ·rw [a1] at b1; cases b1
     ·rw [a1] at b1; cases b1
     ·rw [a1] at b1
      simp only [List.cons.injEq, Prod.mk.injEq, true_and, and_true] at b1
      exact ⟨by rw [a2, b2], b1⟩
    obtain ⟨rfl, rfl⟩ := hsame
    refine cond_f (by simp) (cond_f (by simp) ?_)
    rw [<- c2] at h17 ⊢
    exact laid hk16 q1 q2 q3 q4 q5 c4 h17
   refine cond_f (by simpa using hd3) ?_
   refine LdI.of g13 3 rfl (off := 0) rfl rfl ?_
   by_cases hd5 : d.do_ <= 5
   ·refine cond_t (by simpa using hd5) ?_
    refine ⟨fun w' => ∃ Z, Sat (Row b1 (rowD d kp kc) 30 :: Own 32 1 tp 3 tc (words [t0, t1, t2]) :: Z) w', ⟨_, Sat.pull (Sat.pull g13.drew 8 rfl) 4 rfl⟩, ?_⟩
    refine own_wordQ g13 8 rfl (fun w ⟨Z, h⟩ => ⟨_, 1, h, rfl⟩) rfl htk rfl ?_
    refine ⟨_, _, _, fun w' ⟨Z, h⟩ => LdS.of h 0 rfl (off := 3) rfl (add_mk _ _ _) rfl, ?_⟩
    by_cases hlong : 16384 < d.k.length
    ·have hE : ofE C.H (T k).t d.k.length = 1 := by
      unfold ofE
      rw [ho8]
      simp [treeO, hlong]
     refine (ttake_no g13.drew htu kp d.k.length kc (by omega)).mono ?_
     rintro e w16 ⟨rfl, h16⟩
     rw [hE]
     refine ⟨_, _, _, rfl, cond_t (by simp; omega) (cond_f rfl (same w16 h16))⟩
    have hk16 : d.k.length <= 16000 := by omega
    refine (ptake_c pt hk3 g13.drew (hes k hk3) (key := d.k) hk16 rfl (RdB.arg 7 rfl hkp hkr)).mono ?_
    rintro e w16 ⟨es', old, had, A, o, C0, rfl, c1, c2, c3, c4, C', cnt', us', q1, q2, q3, q4, q5, h16⟩
    refine ⟨_, _, _, rfl, cond_f (by simp; omega) ?_⟩
    refine ⟨fun w' => ∃ Z, Sat (Row b1 (rowD d kp kc) 30 :: Row b0 (rowL p c (fun k => kv (T k).es)) 61 :: Ro W (Mem.of W) :: Z) w', ⟨_, Sat.pull (Sat.pull (Sat.pull h16.drew 10 rfl) 8 rfl) 5 rfl⟩, by omega, by omega, ?_⟩
    refine ⟨_, _, _, fun w' ⟨Z, h⟩ => LdS.of h 1 rfl (off := k) (rowL_get hk3) (by rw [add_mk, Int.toNat_natCast, Nat.zero_add, Nat.mul_one]) rfl, ?_⟩
    refine ⟨_, _, _, fun w' ⟨Z, h⟩ => LdS.of h 0 rfl (off := 3) rfl (add_mk _ _ _) rfl, ?_⟩
    refine ⟨str d.k, fun w' ⟨Z, h⟩ => ?_, ?_⟩
    ·obtain ⟨bb, hb1, hb2⟩ := (RdB.arg (F := Row b1 (rowD d kp kc) 30 :: Row b0 (rowL p c (fun k => kv (T k).es)) 61 :: Ro W (Mem.of W) :: Z) 2 rfl hkp hkr).run h (l := d.k.length) (c := kc) rfl (Q := fun b => b = str d.k) rfl
     rw [hb1, hb2]
    refine (ltake_c h16.drew rfl (RdE.own (4 + k) (lists_get hk3 [HeapH C'.H (wvC C'.ph mb cb) b, CoR b cb mb C'.ph C'.ro C'.mv, MkH b mb C'.st (C'.ph == 1), Row b1 (rowD d kp kc) 30] 4 rfl _) (ent_some h16.drew (lists_get hk3 [HeapH C'.H (wvC C'.ph mb cb) b, CoR b cb mb C'.ph C'.ro C'.mv, MkH b mb C'.st (C'.ph == 1), Row b1 (rowD d kp kc) 30] 4 rfl _) rfl)) (show (kv (T k).es).length <= 1000000 by rw [hkvl k]; omega) c1).mono ?_
    rintro e w17 ⟨np, nc, old', had', rfl, c3', h17⟩
    refine ⟨_, _, _, _, _, rfl, ⟨_, Sat.pull (Sat.pull (Sat.pull h17 11 rfl) 9 rfl) 6 rfl⟩, cond_f rfl ?_⟩
    have hsame : had = had' /\ old = old' := by
     rcases c3 with ⟨a1, a2, a3⟩ | ⟨a1, a2⟩ <;> rcases c3' with ⟨b1, b2, b3⟩ | ⟨b1, b2⟩
     ·exact ⟨by rw [a2, b2], by rw [a3, b3]⟩
     ·rw [a1] at b1; cases b1
     ·rw [a1] at b1; cases b1
     ·rw [a1] at b1
      simp only [List.cons.injEq, Prod.mk.injEq, true_and, and_true] at b1
      exact ⟨by rw [a2, b2], b1⟩
    obtain ⟨rfl, rfl⟩ := hsame
    refine cond_f (by simp) (cond_f (by simp) ?_)
    rw [<- c2] at h17 ⊢
    exact laid hk16 q1 q2 q3 q4 q5 c4 h17
   refine cond_f (by simpa using hd5) ?_
   have hc6 : cnt <= 1000000 := by omega
   have hci : Ci (2 * cnt) C := pt.cx.ci
   have hB : 2 * cnt + 2 < 4294967296 := by omega
   have keep : ∀ (C' : Cd) w', Pt (1048576 * (j + 1)) C' cnt T xs r -> roB C' <= roB C + 1 -> C'.H.m.top <= C.H.m.top -> C'.H.t.count <= C.H.t.count -> Sat (CL C' b cb mb (Row b1 (rowD d kp kc) 30 :: lists3 p c (fun k => kv (T k).es) b0 [Own 32 1 tp 3 tc (words [t0, t1, t2]), Own 32 1 xp 5 xc (words xs), Ro W (Mem.of W)])) w' -> k3 w' := fun C' w' g1 g2 g3 g4 g5 =>
    fin _ (next C' cnt T p c w' g1 hT (fun k hk => by have := hel k hk; omega) (by omega) (by omega) (by omega) (by omega) (g5.del 3 rfl))
   refine LdI.of g13 3 rfl (off := 0) rfl rfl ?_
   by_cases hd7 : d.do_ == 7
   ·refine cond_t hd7 ?_
    intro k4 hk4
    have stp : ∀ (C' : Cd) w', Pt (1048576 * (j + 1)) C' cnt T xs r -> C'.ph ≠ 0 -> roB C' <= roB C + 1 -> C'.H.m.top <= C.H.m.top -> C'.H.t.count <= C.H.t.count -> Sat (CL C' b cb mb (Row b1 (rowD d kp kc) 30 :: lists3 p c (fun k => kv (T k).es) b0 [Own 32 1 tp 3 tc (words [t0, t1, t2]), Own 32 1 xp 5 xc (words xs), Ro W (Mem.of W)])) w' -> k4 w' := by
     intro C' w' g1 g2 g3 g4 g5 g6
     refine hk4 _ ?_
     unfold S_law13_TreePlays_j0
     refine LdI.of g6 3 rfl (off := 2) rfl (add_mk _ _ _) ?_
     obtain ⟨x0, hx7, hxe⟩ := bAnd_le d.x 31 (by omega)
     have hxe : bAnd .i64 d.x 31 = (x0 : Int) := hxe
     rw [hxe, show IntKind.wrap .i64 (1 + (x0 : Int)) = ((x0 + 1 : Nat) : Int) by rw [wrapI64 (by omega) (by omega)]; omega]
     have hmv' : mvB C' <= 1048576 * (j + 1) + cnt := g1.cx.mvb
     refine (sstep_c g6 hB g1.cx.ci g1.cx.pk g2 (n := x0 + 1) (by omega) (by omega) (by omega) (by omega)).mono ?_
     rintro e w25 ⟨rfl, h25⟩
     refine ⟨_, _, rfl, cond_f rfl ?_⟩
     obtain ⟨s1, s2, s3, s4⟩ := g1.steps hc6 g2 (x0 + 1)
     exact keep _ w25 s1 (by omega) (by omega) (by omega) h25
    refine (sphase_c g13 1 rfl).mono ?_
    rintro e w22 ⟨rfl, rfl⟩
    refine ⟨_, rfl, ?_⟩
    by_cases hp0 : C.ph = 0
    ·refine cond_t (by rw [hp0]; rfl) ?_
     refine (sstart_c g13 hci hp0).mono ?_
     rintro e w23 ⟨rfl, h23⟩
     refine ⟨_, rfl, cond_f rfl ?_⟩
     obtain ⟨s1, s2, s3, s4⟩ := pt.start hp0
     exact stp _ w23 (s1.mono (by omega)) (by show (1 : Nat) ≠ 0; decide) (by omega) s3 s4 h23
    ·exact cond_f (by simp; omega) (stp C _ (pt.mono (by omega)) hp0 (by omega) (Nat.le_refl _) (Nat.le_refl _) g13)
   refine cond_f (by simpa using hd7) ?_
   refine LdI.of g13 3 rfl (off := 0) rfl rfl ?_
   by_cases hd8 : d.do_ == 8
   ·refine cond_t hd8 ?_
    refine (sfull_c g13 hB hci pt.cx.pk (by omega) (by omega)).mono ?_
    rintro e w26 ⟨rfl, h26⟩
    refine ⟨_, _, rfl, cond_f rfl ?_⟩
    obtain ⟨s1, s2, s3, s4⟩ := pt.full hc6
    exact keep _ w26 (s1.mono (by omega)) (by omega) s3 s4 h26
   refine cond_f (by simpa using hd8) ?_
   have g14 := g13.drew
   refine own_word g14 8 rfl rfl htk rfl ?_
   refine ⟨by omega, by omega, ?_⟩
   refine LdS.of g14 7 rfl (off := k) (rowL_get hk3) (by rw [add_mk, Int.toNat_natCast, Nat.zero_add, Nat.mul_one]) ?_
   refine LdS.of g14 3 rfl (off := 3) rfl (add_mk _ _ _) ?_
   refine (asks_c g14 (pt.tree k hk3) (hes k hk3) rfl (RdE.own (3 + k) (lists_get hk3 [CoR b cb mb C.ph C.ro C.mv, MkH b mb C.st (C.ph == 1), Row b1 (rowD d kp kc) 30] 3 rfl _) (ent_some g14 (lists_get hk3 [HeapH C.H (wvC C.ph mb cb) b, CoR b cb mb C.ph C.ro C.mv, MkH b mb C.st (C.ph == 1), Row b1 (rowD d kp kc) 30] 4 rfl _) rfl)) (key := d.k) rfl (RdB.arg 9 rfl hkp hkr)).mono ?_
   rintro e w27 ⟨rfl, h27⟩
   exact ⟨_, rfl, cond_f rfl (fin _ (same w27 h27))⟩
  refine LdS.of g13 3 rfl (off := 3) rfl (add_mk _ _ _) ?_
  by_cases h16 : 16000 < d.k.length
  ·refine cond_t (by simp; omega) ?_
   by_cases h163 : 16384 < d.k.length
   ·exact cond_f (by simp; omega) (main (.inr h163))
   ·exact cond_t (by simp; omega) (same w13 g13)
  ·exact cond_f (by simp; omega) (main (.inl (by omega)))
 refine LdI.of g13 3 rfl (off := 2) rfl (add_mk _ _ _) ?_
 by_cases hx0 : 0 <= d.x
 ·refine cond_t (by simpa using hx0) ?_
  refine LdI.of g13 3 rfl (off := 2) rfl (add_mk _ _ _) ⟨by omega, ?_⟩
  obtain ⟨x0, hx0e⟩ := Int.eq_ofNat_of_zero_le hx0
  rw [hx0e, show Int.tmod (x0 : Int) 5 = ((x0 % 5 : Nat) : Int) from tmod_nat x0 5]
  have h5 : x0 % 5 < 5 := Nat.mod_lt _ (by omega)
  obtain ⟨x, hx⟩ : ∃ x, xs[x0 % 5]? = some x := ⟨_, List.getElem?_eq_getElem (by omega)⟩
  refine own_word g13 9 rfl hxs.symm hx rfl ?_
  exact mid x (.inr (List.mem_of_getElem? hx))
 ·exact cond_f (by simpa using hx0) (mid 0 (.inl rfl))
set_option maxRecDepth 100000 in
theorem plays_lifted (os : Os) (started : os.Started) (H : Type) (enc : TypeId × Value -> H) :
  ReturnsInHanded {} Tryz.checked os 7 .any (Rows.treePlaysSpec.pre6 enc Tryz.prog Tryz.f7 Rows.treePlaysRow.domain false) (Rows.treePlaysSpec.post enc Tryz.prog Tryz.f7 false true false false) := by
 refine returnsInHanded_of_change_sized (C := Tryz.checked) own started (by kernel_rfl) Tryz.func7
  (ChangeSpec.witness6 (enc := enc) (C := Tryz.checked) false ⟨#[], #[.slice none 0 0], []⟩ 8 (by kernel_rfl) (by kernel_rfl) (by kernel_rfl) (by kernel_rfl)) ?_
 intro W base args ds gs before hval hW hcnd hsz _
 have hval : ∀ (j : Nat) t v, Tryz.f7.params[j]? = some t -> args[j]? = some v -> Value.okWide Tryz.prog W .any base t v := hval
 have hW' : DataW.Whole enc Tryz.prog Tryz.f7.params.toList Rows.treePlaysSpec.vars false W args.toList ds gs before := hW
 obtain ⟨p, q, hA, hV, _⟩ := hW'
 rw [Tryz.params7] at hA hval
 obtain ⟨v0, d0, rfl, rfl, h0⟩ := trodAll_one hA
 obtain ⟨a0, l0, c0, rfl⟩ := okWide_slice Tryz.underlying22 (hval 0 22 v0 rfl rfl)
 obtain ⟨fu0, hf0⟩ := h0
 obtain ⟨q0, m0, L0, e0, hx0, hN0⟩ := deeds13_arg2 (N := reachBytes) (fun m hm => by
  have h1 := List.all_eq_true.1 hsz m (DataW.weights_mem_each (j := 0) (t := 22) (d := d0) (by rw [Tryz.params7]; rfl) rfl m hm)
  simpa using h1) hf0
 cases e0
 refine (plays_c W hx0 hN0).mono fun e W' ⟨he, hs⟩ => ?_
 exact ⟨_, he, law_post (tb := 4) laidOut (by decide +kernel) (by kernel_rfl) Tryz.underlying4 rfl hW ⟨rfl, rfl, rfl⟩ hs⟩
theorem plays_holds : Rows.TreePlaysSaid :=
 OpenClaim.holds_of_wide 7 Tryz.f7 rfl rfl rfl rfl rfl rfl rfl ⟨rfl, rfl, rfl, rfl, rfl⟩ rfl rfl rfl rfl rfl (by kernel_rfl) Tryz.func7 (by kernel_rfl)
  (of_decide_eq_true (by kernel_rfl)) (by unfold Func.isWrapper; first | (rw [if_pos (by decide +kernel)]; kernel_rfl) | (rw [if_neg (by decide +kernel)]; exact ⟨rfl, rfl⟩))
  (fun os started H enc _ => plays_lifted os started H enc)
end Go.Proofs.YtpicofkhioalkaaGreat
