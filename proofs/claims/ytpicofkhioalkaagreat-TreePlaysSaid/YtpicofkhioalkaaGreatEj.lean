
/- An engine that nobody watches, with what is kept of the heap; what ground comes to. -/
import Derived.Test.YtpicofkhioalkaaGreatEh
set_option maxRecDepth 100000
namespace Go.Proofs.YtpicofkhioalkaaGreat
open Go Go.Lw Go.Wd Go.Am Go.Tb Go.Hm Go.Kd Go.Td
structure Keeps (J : Hp -> Nat -> Prop) : Prop where
 new : ∀ {n k}, J (Hp.new n k) 0
 made : ∀ {H c tag refs size}, J H c -> H.WF -> ¬ H.t.full -> J (H.made tag refs size) (c + 1)
 put : ∀ {H c x j y o}, J H c -> H.WF -> H.look x = some o -> (j < o.refs -> H.may y = true) -> J (H.set x (o.put j y)) c
 root : ∀ {H c i x}, J H c -> H.WF -> H.may x = true -> J (H.rooted i x) c
theorem keeps_any : Keeps fun _ _ => True := ⟨trivial, fun _ _ _ => trivial, fun _ _ _ _ => trivial, fun _ _ _ => trivial⟩
def engJ {J : Hp -> Nat -> Prop} (hJ : Keeps J) (b : Nat) : Eng .nilIface b where
 σ := Hp × Nat
 H := fun s => s.1
 rest := fun _ => hemp
 inv := fun s => J s.1 s.2
 ok := fun s y => (s.1.look y).isSome = true
 cost := fun s => s.2
 live := fun _ h => h
 mkF := by
  rintro ⟨H, c⟩ tag refs size hi hm h1 h2 h3 h4 h5
  have hn := not_full hm h5
  refine ⟨(H.made tag refs size, c + 1), nextH H.t, next_pos _, next_u64 hm hn, ?_, hJ.made hi hm hn, ?_, ?_, rfl, by rw [made_top hm], by show (H.m.alloc _).n = _; unfold Am.alloc; cases H.m.op <;> rfl, make_n _ _, count_make hm.tab, rfl, ov_made hm hn, ?_⟩
  ·unfold Hp.ov; rw [next_look hm hn]; rfl
  ·show ((H.made tag refs size).look (nextH H.t)).isSome = true
   rw [made_look hm hn, if_pos rfl]; rfl
  ·intro y hy
   show ((H.made tag refs size).look y).isSome = true
   rw [made_look hm hn]
   split
   ·rfl
   ·exact hy
  ·intro F w hs
   refine (mk_c hs (makeE_of h1 h3 h2 h4 h5)).mono ?_
   rintro e w' ⟨rfl, h'⟩
   exact ⟨rfl, h'⟩
 sr := by
  rintro ⟨H, c⟩ x i y o hi' hm ho hx hi hy hyl
  have ho : H.ov x = some o := ho
  obtain ⟨p, hl, g1, g2, g3⟩ := ov_some ho
  have hok := look_ok hm hl
  have hil : i < p.w.length := by have := hok.refs; omega
  have hmay : H.may y = true := by
   rcases hy with rfl | hy
   ·simp [Hp.may]
   ·have hy : (H.look y).isSome = true := hy
    simp [Hp.may, hy]
  refine ⟨(H.set x (p.put i y), c), hJ.put hi' hm hl fun _ => hmay, ?_, rfl, set_top hm hl (by simp [Ob.put]), rfl, rfl, rfl, ?_, ?_⟩
  ·intro z hz
   show ((H.set x (p.put i y)).look z).isSome = true
   rw [set_look hm hl (by simp [Ob.put])]
   split
   ·rfl
   ·exact hz
  ·show (H.set x (p.put i y)).ov = _
   rw [ov_set hm hl (by simp [Ob.put])]
   simp only [Ob.put, g1, g2, g3]
  ·intro F w hs
   refine (srf_c hs hl (by omega) rfl hyl hmay).mono ?_
   rintro e w' ⟨rfl, h'⟩; exact ⟨rfl, h'⟩
 sw := by
  rintro ⟨H, c⟩ x i y o hi' hm ho hx hi hyl
  have ho : H.ov x = some o := ho
  obtain ⟨p, hl, g1, g2, g3⟩ := ov_some ho
  refine ⟨(H.set x (p.put (p.refs + i) y), c), hJ.put hi' hm hl (fun h => by omega), ?_, rfl, set_top hm hl (by simp [Ob.put]), rfl, rfl, rfl, ?_, ?_⟩
  ·intro z hz
   show ((H.set x (p.put (p.refs + i) y)).look z).isSome = true
   rw [set_look hm hl (by simp [Ob.put])]
   split
   ·rfl
   ·exact hz
  ·show (H.set x (p.put (p.refs + i) y)).ov = _
   rw [ov_set hm hl (by simp [Ob.put])]
   simp only [Ob.put, g1, g2, g3]
  ·intro F w hs
   refine (swd_c hs hl (by rw [g2, g3]; exact hi) rfl hyl).mono ?_
   rintro e w' ⟨rfl, h'⟩
   exact ⟨rfl, h'⟩
section
variable {J : Hp -> Nat -> Prop} {b : Nat} {F : List HP} {w : World}
theorem toS (hJ : Keeps J) {H : Hp} {c : Nat} (h : Sat (HeapH H .nilIface b :: F) w) : Sat ((engJ hJ b).S (H, c) F) w := Sat.p1 (Sat.emp h)
theorem ofS (hJ : Keeps J) {s : Hp × Nat} (h : Sat ((engJ hJ b).S s F) w) : Sat (HeapH s.1 .nilIface b :: F) w := h.del 1 rfl
theorem jroot_c (hJ : Keeps J) {H : Hp} {c : Nat} (hs : Sat (HeapH H .nilIface b :: F) w) (hj : J H c) {i : Nat} {ii : Int} (hii : ii = i) (hi : i < 16) {x : Nat} (hx : (H.look x).isSome = true) :
  Calls Tryz.prog 36 #[.pointer (some ⟨b, 0, none⟩), .int .i64 ii, .int .u64 (x : Int)] w fun e w' => e = .returned (.int .i64 0) /\ J (H.rooted i x) c /\ Sat (HeapH (H.rooted i x) .nilIface b :: F) w' := by
 subst hii
 have hm := sat_wf hs
 have hxl : x < 18446744073709551616 := by
  cases hl : H.look x with
  | none => rw [hl] at hx; cases hx
  | some o => exact look_lt hm hl
 have hmay : H.may x = true := by simp [Hp.may, hx]
 have hE : Hp.rootE H (i : Int) x = 0 := by unfold Hp.rootE; rw [if_pos (by omega), if_pos hmay]
 have h := sroot_c hs (i : Int) hxl
 rw [hE, if_pos rfl] at h
 refine h.mono ?_
 rintro e w' ⟨rfl, h'⟩
 exact ⟨rfl, hJ.root hj hm hmay, h'⟩
structure Gnd (J : Hp -> Nat -> Prop) (n k : Nat) (H : Hp) (ts xs : List Nat) (r : Nat) : Prop where
 j : J H (ts.length + 1 + xs.length)
 nd : (ts ++ r :: xs).Nodup
 tree : ∀ z ∈ ts, H.ov z = some (treeO 0 0 0)
 roots : H.roots = (ts ++ List.replicate (16 - ts.length) 0).set 9 r
 rr : H.ov r = some ⟨9, 5, xs ++ List.replicate (5 - xs.length) 0⟩
 xo : ∀ i x, xs[i]? = some x -> H.ov x = some ⟨8, 0, [i]⟩
 top : H.m.top = 4 * ts.length + 6 + 2 * xs.length
 cnt : H.t.count = ts.length + 1 + xs.length
 n : H.m.n = n
 tn : H.t.n = k
structure Gnd1 (J : Hp -> Nat -> Prop) (n k : Nat) (H : Hp) (ts : List Nat) : Prop where
 j : J H ts.length
 nd : ts.Nodup
 tree : ∀ z ∈ ts, H.ov z = some (treeO 0 0 0)
 roots : H.roots = ts ++ List.replicate (16 - ts.length) 0
 top : H.m.top = 4 * ts.length
 cnt : H.t.count = ts.length
 n : H.m.n = n
 tn : H.t.n = k
theorem rooted_ov (H : Hp) (i x : Nat) : (H.rooted i x).ov = H.ov := rfl
set_option maxHeartbeats 1000000 in
theorem ground_c (hJ : Keeps J) {n k m : Nat} (h1 : 100 <= n) (h2 : n <= 1048576) (h3 : 100 <= k) (h4 : k <= 1048576) (hm9 : m <= 9) (hs : Sat F w) :
  Calls Tryz.prog 9 #[.int .i64 (n : Int), .int .i64 (k : Int), .int .i64 (m : Int)] w fun e w' => ∃ (b : Nat) (H : Hp) (ts xs : List Nat) (r : Nat) (tp xp : Option Addr) (tc xc : Nat), Gnd J n k H ts xs r /\ ts.length = m /\ xs.length = 5 /\
   e = .returned (.tuple #[.pointer (some ⟨b, 0, none⟩), .slice tp m tc, .slice xp 5 xc, .bool true]) /\ Sat (HeapH H .nilIface b :: Own 32 1 tp m tc (words ts) :: Own 32 1 xp 5 xc (words xs) :: F) w' := by
 refine S_law13_ground_ok _ _ _ _ _ ?_
 unfold S_law13_ground
 refine (fresh_c (by omega) h2 (by omega) h4 hs).mono ?_
 rintro e w0 ⟨b, rfl, h0⟩
 refine ⟨_, rfl, cond_f rfl ?_⟩
 refine ⟨fun tp tl tc i w' => ∃ (H : Hp) (ts : List Nat), i = (ts.length : Nat) /\ tl = ts.length /\ ts.length <= m /\ Gnd1 J n k H ts /\ Sat (HeapH H .nilIface b :: Own 32 1 tp tl tc (words ts) :: F) w', fun _ _ _ i _ => ((m : Int) - i).toNat,
  ⟨Hp.new n k, [], rfl, rfl, by simp, ⟨hJ.new, by simp, by simp, rfl, rfl, rfl, rfl, rfl⟩, Sat.p1 (h0.ownNil _ _)⟩, ?_⟩
 rintro tp tl tc i w1 ⟨H, ts, rfl, rfl, htm, g, h5⟩
 unfold S_law13_ground_l1
 have hm0 := sat_wf h5
 by_cases hlt : ts.length < m
 ·refine cond_t (by simp; omega) ?_
  have hs5 : Sat ((engJ hJ b).S (H, ts.length) (Own 32 1 tp ts.length tc (words ts) :: F)) w1 := toS hJ h5
  refine (tmake_c hs5 g.j (by show H.m.top + 4 <= H.m.n; rw [g.top, g.n]; omega) (by show H.t.count < H.t.n; rw [g.cnt, g.tn]; omega)).mono ?_
  rintro e w2 ⟨⟨H1, c1⟩, x, rfl, mv, x0, xn, xk, xo, h6⟩
  have hc1 : c1 = ts.length + 1 := mv.cost
  subst hc1
  refine ⟨_, _, rfl, cond_f rfl ?_⟩
  have h6 := ofS hJ h6
  refine (jroot_c hJ h6 mv.inv (i := ts.length) rfl (by omega) xk).mono ?_
  rintro e w3 ⟨rfl, hj, h7⟩
  refine ⟨_, rfl, cond_f rfl ?_⟩
  refine RunS.one eok_u64 h7 1 rfl rfl rfl (by omega) (by simp only [maxLen]; omega) fun p' c' w4 h8 => ?_
  refine ⟨⟨H1.rooted ts.length x, ts ++ [x], by rw [wrapI64 (by omega) (by omega)]; simp, by simp, by simp; omega, ?_, ?_⟩, by simp only [wrapI64 (n := ((ts.length : Nat) : Int) + 1) (by omega) (by omega)]; omega⟩
  ·have q1 := mv.top; have q2 := mv.n; have q3 := mv.cnt; have q4 := mv.tn; have q5 := mv.roots
   have q1 : H1.m.top = H.m.top + 4 := q1
   have q2 : H1.m.n = H.m.n := q2
   have q3 : H1.t.count = H.t.count + 1 := q3
   have q4 : H1.t.n = H.t.n := q4
   have q5 : H1.roots = H.roots := q5
   have xo : H1.ov = updO H.ov x (treeO 0 0 0) := xo
   have xn : H.ov x = none := xn
   have hnx : x ∉ ts := fun hx => by rw [g.tree x hx] at xn; cases xn
   refine ⟨by simpa using hj, ?_, ?_, ?_, ?_, ?_, ?_, ?_⟩
   ·rw [List.nodup_append]
    exact ⟨g.nd, by simp, fun a ha c hc => by simp at hc; subst hc; rintro rfl; exact hnx ha⟩
   ·intro z hz
    rw [rooted_ov, xo]
    rcases List.mem_append.1 hz with hz | hz
    ·rw [updO_ne _ _ (fun e : z = x => hnx (e ▸ hz))]; exact g.tree z hz
    ·simp only [List.mem_cons, List.not_mem_nil, or_false] at hz; subst hz; rw [updO_self]
   ·show H1.roots.set ts.length x = _
    rw [q5, g.roots, List.set_append_right _ _ (Nat.le_refl _), Nat.sub_self]
    have : 16 - ts.length = (15 - ts.length) + 1 := by omega
    rw [this, List.replicate_succ, List.set_cons_zero]
    have e2 : 16 - (ts ++ [x]).length = 15 - ts.length := by simp <;> omega
    rw [e2]; simp
   ·show H1.m.top = _; rw [q1, g.top]; simp <;> omega
   ·show H1.t.count = _; rw [q3, g.cnt]; simp
   ·show H1.m.n = _; rw [q2, g.n]
   ·show H1.t.n = _; rw [q4, g.tn]
  ·have e1 : words ts ++ (#[Value.int .u64 (x : Int)] : Array Value).toList = words (ts ++ [x]) := by simp [words]
   have e2 : (ts ++ [x]).length = ts.length + 1 := by simp
   rw [<- e1]
   exact h8
 ·have : ts.length = m := by omega
  subst this
  refine cond_f (by simp) ?_
  have hs5 : Sat ((engJ hJ b).S (H, ts.length) (Own 32 1 tp ts.length tc (words ts) :: F)) w1 := toS hJ h5
  refine emk_c hs5 g.j (tag := 9) (refs := 5) (size := 5) (by omega) (by omega) (by omega) (by show H.m.top + 1 + 5 <= H.m.n; rw [g.top, g.n]; omega) (by show H.t.count < H.t.n; rw [g.cnt, g.tn]; omega) ?_
  rintro ⟨H1, c1⟩ r w2 mv r0 rl rn rk ro h6
  have hc1 : c1 = ts.length + 1 := mv.cost
  subst hc1
  refine ⟨_, _, rfl, cond_f rfl ?_⟩
  have h6 := ofS hJ h6
  refine (jroot_c hJ h6 mv.inv (i := 9) rfl (by omega) rk).mono ?_
  rintro e w3 ⟨rfl, hj, h7⟩
  refine ⟨_, rfl, cond_f rfl ?_⟩
  have q1 : H1.m.top = H.m.top + 6 := mv.top
  have q2 : H1.m.n = H.m.n := mv.n
  have q3 : H1.t.count = H.t.count + 1 := mv.cnt
  have q4 : H1.t.n = H.t.n := mv.tn
  have q5 : H1.roots = H.roots := mv.roots
  have ro : H1.ov = updO H.ov r ⟨9, 5, List.replicate 5 0⟩ := ro
  have rn : H.ov r = none := rn
  have hnr : r ∉ ts := fun hx => by rw [g.tree r hx] at rn; cases rn
  have g0 : Gnd J n k (H1.rooted 9 r) ts [] r := by
   refine ⟨by simpa using hj, ?_, ?_, ?_, ?_, by simp, ?_, ?_, ?_, ?_⟩
   ·rw [List.nodup_append]
    exact ⟨g.nd, by simp, fun a ha c hc => by simp at hc; subst hc; rintro rfl; exact hnr ha⟩
   ·intro z hz
    rw [rooted_ov, ro, updO_ne _ _ (fun e : z = r => hnr (e ▸ hz))]; exact g.tree z hz
   ·show H1.roots.set 9 r = _; rw [q5, g.roots]
   ·rw [rooted_ov, ro, updO_self]; simp
   ·show H1.m.top = _; rw [q1, g.top]; simp
   ·show H1.t.count = _; rw [q3, g.cnt]; simp
   ·show H1.m.n = _; rw [q2, g.n]
   ·show H1.t.n = _; rw [q4, g.tn]
  clear hj q1 q2 q3 q4 q5 ro rn mv g h5 hs5 h6
  refine ⟨fun xp xl xc i w' => ∃ (H : Hp) (xs : List Nat), i = (xs.length : Nat) /\ xl = xs.length /\ xs.length <= 5 /\ Gnd J n k H ts xs r /\ Sat (HeapH H .nilIface b :: Own 32 1 xp xl xc (words xs) :: Own 32 1 tp ts.length tc (words ts) :: F) w', fun _ _ _ i _ => ((5 : Int) - i).toNat,
   ⟨_, [], rfl, rfl, by simp, g0, Sat.p1 (h7.ownNil _ _)⟩, ?_⟩
  clear h7 g0
  rintro xp xl xc i w4 ⟨H2, xs, rfl, rfl, hx5, g, h8⟩
  unfold S_law13_ground_l0
  by_cases hlx : xs.length < 5
  ·refine cond_t (by simp; omega) ?_
   have hs8 : Sat ((engJ hJ b).S (H2, ts.length + 1 + xs.length) (Own 32 1 xp xs.length xc (words xs) :: Own 32 1 tp ts.length tc (words ts) :: F)) w4 := toS hJ h8
   refine emk_c hs8 g.j (tag := 8) (refs := 0) (size := 1) (by omega) (by omega) (by omega) (by show H2.m.top + 1 + 1 <= H2.m.n; rw [g.top, g.n]; omega) (by show H2.t.count < H2.t.n; rw [g.cnt, g.tn]; omega) ?_
   rintro s3 x w5 mv x0 xl xn xk xo h9
   refine ⟨_, _, rfl, cond_f rfl ?_⟩
   have hrx : r ≠ x := fun e => by rw [<- e] at xn; have xn : H2.ov r = none := xn; rw [g.rr] at xn; cases xn
   have hro : (engJ hJ b).ov s3 r = some ⟨9, 5, xs ++ List.replicate (5 - xs.length) 0⟩ := by rw [xo, updO_ne _ _ hrx]; exact g.rr
   have hrk : (engJ hJ b).ok s3 r := by
    have hh : ((engJ hJ b).ov s3 r).isSome = true := by rw [hro]; rfl
    have hh : (s3.1.ov r).isSome = true := hh
    rw [ov_isSome] at hh
    exact hh
   refine esr_c h9 mv.inv (i := xs.length) hro hrk (by show xs.length < 5; omega) rfl (.inr xk) ?_
   rintro s4 w6 mv4 o4 h10
   refine ⟨_, rfl, cond_f rfl ?_⟩
   rw [wrapU64 (by omega) (by omega)]
   have hxo4 : (engJ hJ b).ov s4 x = some ⟨8, 0, [0]⟩ := by rw [o4, updO_ne _ _ (Ne.symm hrx), xo, updO_self]; rfl
   refine esw_c h10 mv4.inv (i := 0) (y := xs.length) hxo4 (mv4.ok _ xk) (by show 0 + 0 < 1; omega) rfl (by omega) ?_
   rintro ⟨H5, c5⟩ w7 mv5 o5 h11
   refine ⟨_, rfl, cond_f rfl ?_⟩
   have h11 := ofS hJ h11
   refine RunS.one eok_u64 h11 1 rfl rfl rfl (by omega) (by simp only [maxLen]; omega) fun p' c' w8 h12 => ?_
   refine ⟨⟨H5, xs ++ [x], by rw [wrapI64 (by omega) (by omega)]; simp, by simp, by simp; omega, ?_, ?_⟩, by simp only [wrapI64 (n := ((xs.length : Nat) : Int) + 1) (by omega) (by omega)]; omega⟩
   ·have mm := (mv.trans mv4).trans mv5
    have q0 : c5 = ts.length + 1 + xs.length + 1 := mm.cost
    have q1 : H5.m.top = H2.m.top + 2 := mm.top
    have q2 : H5.m.n = H2.m.n := mm.n
    have q3 : H5.t.count = H2.t.count + 1 := mm.cnt
    have q4 : H5.t.n = H2.t.n := mm.tn
    have q5 : H5.roots = H2.roots := mm.roots
    have ji : J H5 c5 := mv5.inv
    have xn : H2.ov x = none := xn
    have hov : ∀ z, z ≠ x -> z ≠ r -> H5.ov z = H2.ov z := by
     intro z z1 z2
     have e5 : H5.ov = updO ((engJ hJ b).ov s4) x _ := o5
     rw [e5, updO_ne _ _ z1, o4, updO_ne _ _ z2, xo, updO_ne _ _ z1]; rfl
    have hxt : x ∉ ts := fun hx => by rw [g.tree x hx] at xn; cases xn
    have hxx : x ∉ xs := fun hx => by
     obtain ⟨j, hj⟩ := List.getElem?_of_mem hx
     rw [g.xo j x hj] at xn; cases xn
    have hnd := g.nd
    obtain ⟨n1, n2, n3⟩ := List.nodup_append.1 hnd
    obtain ⟨n4, n5⟩ := List.nodup_cons.1 n2
    refine ⟨?_, ?_, ?_, ?_, ?_, ?_, ?_, ?_, ?_, ?_⟩
    ·rw [q0] at ji
     simpa [Nat.add_assoc] using ji
    ·rw [List.nodup_append]
     refine ⟨n1, ?_, ?_⟩
     ·rw [List.nodup_cons]
      refine ⟨by simp [n4, hrx], ?_⟩
      rw [List.nodup_append]
      exact ⟨n5, by simp, fun a ha c hc => by simp at hc; subst hc; rintro rfl; exact hxx ha⟩
     ·intro a ha c hc
      rcases List.mem_cons.1 hc with rfl | hc
      ·exact n3 a ha _ (by simp)
      ·rcases List.mem_append.1 hc with hc | hc
       ·exact n3 a ha c (by simp [hc])
       ·simp at hc; subst hc; rintro rfl; exact hxt ha
    ·intro z hz
     rw [hov z (fun e => hxt (e ▸ hz)) (fun e => hnr (e ▸ hz))]; exact g.tree z hz
    ·rw [q5, g.roots]
    ·have e5 : H5.ov = updO ((engJ hJ b).ov s4) x _ := o5
     rw [e5, updO_ne _ _ hrx, o4, updO_self]
     congr 2
     show (xs ++ List.replicate (5 - xs.length) 0).set xs.length x = _
     rw [List.set_append_right _ _ (Nat.le_refl _), Nat.sub_self]
     have : 5 - xs.length = (4 - xs.length) + 1 := by omega
     rw [this, List.replicate_succ, List.set_cons_zero]
     have e2 : 5 - (xs ++ [x]).length = 4 - xs.length := by simp <;> omega
     rw [e2]; simp
    ·intro i z hz
     rw [List.getElem?_append] at hz
     split at hz
     ·have := List.mem_of_getElem? hz
      rw [hov z (fun e => hxx (e ▸ this)) (fun e => n4 (e ▸ this))]; exact g.xo i z hz
     ·rename_i hi
      have hi2 : i = xs.length := by
       have := get_lt hz
       simp at this
       omega
      subst hi2
      simp at hz
      subst hz
      have e5 : H5.ov = updO ((engJ hJ b).ov s4) x ⟨8, 0, ([0] : List Nat).set (0 + 0) xs.length⟩ := o5
      rw [e5, updO_self]; rfl
    ·rw [q1, g.top]; simp <;> omega
    ·rw [q3, g.cnt]; simp <;> omega
    ·rw [q2, g.n]
    ·rw [q4, g.tn]
   ·have e1 : words xs ++ (#[Value.int .u64 (x : Int)] : Array Value).toList = words (xs ++ [x]) := by simp [words]
    have e2 : (xs ++ [x]).length = xs.length + 1 := by simp
    rw [<- e1]
    exact h12
  ·have hx : xs.length = 5 := by omega
   refine cond_f (by simp; omega) ?_
   rw [hx] at h8 ⊢
   exact ⟨b, H2, ts, xs, r, tp, xp, tc, xc, g, rfl, hx, rfl, Sat.pull (Sat.pull h8 2 rfl) 1 rfl⟩
end
end Go.Proofs.YtpicofkhioalkaaGreat
