
/- Cells moved within an array, and cleared: what slices.Delete does to a slice that is owned. No program in sight. -/
import Derived.Test.YtpicofkhioalkaaGreatTb
namespace Go.Lw
open Go Go.Tb
section
variable {P : Program} {L : List HP} {w : World}
theorem RunS.inRow {t e s bytes ty g l c m mc : Nat} (hE : EOK P t e s bytes) {q : Addr} {cs news : List Value} {K : Option Addr -> Nat -> Nat -> World -> Prop} (hs : Sat L w) (i : Nat) (hi : L[i]? = some (Row g cs e))
  (hn : Reads w (some q) news) (hnl : news.length = m * s) (h1 : ∀ u ∈ news, u.oneCell' = true) (hroom : l + m <= c) (hcl : c * s <= cs.length)
  (h : ∀ w', Sat (L.set i (Row g (cs.take (l * s) ++ news ++ cs.drop (l * s + news.length)) e)) w' -> K (some ⟨g, 0, none⟩) (l + m) c w') :
  RunS P (Builtin.append_ #[t, t] ty #[.slice (some ⟨g, 0, none⟩) l c, .slice (some q) m mc]) w K := by
 obtain ⟨hsl, ⟨ti, z, hti, hz, rfl, rfl, hzs⟩, hpos⟩ := hE
 have hle : l * ti.size + m * ti.size <= c * ti.size := by rw [<- Nat.add_mul]; exact Nat.mul_le_mul_right _ (by omega)
 have hrun := run_append_room (P := P) w t ty e ti hsl hti g l c cs.toArray (hs.blk i hi) q m mc news hnl (fun j v hj => hn q rfl j v hj) h1 (by omega) (by simp only [List.size_toArray]; omega)
 exact ⟨_, _, _, _, hrun, h _ (hs.setRow i hi)⟩
theorem RunU.clearN {t e ty g o n c s : Nat} {z : Value} {cs : List Value} {K : World -> Prop} (hu : P.underlying t = some (.slice e)) (hz : ∃ ti, P.info? e = some ti /\ ti.zero = some z) (hzs : z.cells.size = s) (hone : z.cells.toList.all (·.oneCell') = true) (hpos : 0 < s) (hs : Sat L w)
  (i : Nat) (hi : L[i]? = some (Row g cs e)) (hfit : o + n * s <= cs.length)
  (h : ∀ w', Sat (L.set i (Row g (cs.take o ++ (Builtin.zeroCells z.cells n).toList ++ cs.drop (o + n * s)) e)) w' -> K w') :
  RunU P (Builtin.clear_ #[t] ty #[.slice (some ⟨g, o, none⟩) n c]) w K := by
 obtain ⟨ti, hti, htz⟩ := hz
 have hzl : (Builtin.zeroCells z.cells n).toList.length = n * s := by rw [zero_len, hzs]
 have hall : ∀ v ∈ (Builtin.zeroCells z.cells n).toList, v.oneCell' = true := by
  intro v hv
  obtain ⟨j, hj⟩ := List.mem_iff_getElem?.1 hv
  have hlt := get_lt hj
  have hm : (Builtin.zeroCells z.cells n).toList[j]? = z.cells.toList[j % s]? := by
   have h1 : j < n * s := by omega
   have h2 : j % s < s := Nat.mod_lt _ hpos
   simp only [Builtin.zeroCells, Array.getElem?_toList]
   simp [hzs, h1, h2]
  rw [hm] at hj
  exact List.all_eq_true.1 hone v (List.mem_of_getElem? hj)
 by_cases hn : n = 0
 ·subst hn
  refine ⟨w, ?_, h w ?_⟩
  ·simp [Builtin.clear_, run_underlying hu]
  ·have e0 : (Builtin.zeroCells z.cells 0).toList = [] := List.eq_nil_of_length_eq_zero (by simpa using hzl)
   rw [e0]
   have := hs.setRow (cs' := cs) i hi
   rw [setRow_self w g cs.toArray e (0, 0) (hs.blk i hi)] at this
   simpa using this
 ·have hst := run_storeCells_at P g o e (Builtin.zeroCells z.cells n).toList 0 cs.toArray w (hs.blk i hi) (by simp only [List.size_toArray]; omega) hall
  rw [<- hzl] at h
  refine ⟨_, ?_, h _ (hs.setRow i hi)⟩
  obtain ⟨k, rfl⟩ := Nat.exists_eq_succ_of_ne_zero hn
  simp [Builtin.clear_, run_underlying hu, zeroValue, typeInfo, hti, htz] at hst ⊢
  simp [hst]
theorem RunS.deleteOne {t e s bytes ty g l c k : Nat} {z : Value} (hE : EOK P t e s bytes) (hz : ∃ ti, P.info? e = some ti /\ ti.zero = some z) (hzs : z.cells.size = s) (hone : z.cells.toList.all (·.oneCell') = true) {xs : List Value} {K : Option Addr -> Nat -> Nat -> World -> Prop} (hs : Sat L w)
  (i : Nat) (hi : L[i]? = some (Own e s (some ⟨g, 0, none⟩) l c xs)) (hx1 : ∀ u ∈ xs, u.oneCell' = true) (hk : k < l) {k0 k1 : Int} (e0 : k0 = k) (e1 : k1 = ((k + 1 : Nat) : Int))
  (h : ∀ w', Sat (L.set i (Own e s (some ⟨g, 0, none⟩) (l - 1) c (xs.take (k * s) ++ xs.drop ((k + 1) * s)))) w' -> K (some ⟨g, 0, none⟩) (l - 1) c w') :
  SlC (some ⟨g, 0, none⟩) c 0 k0 (Nat.cast c : Int) s fun s2p s2l s2c => SlC (some ⟨g, 0, none⟩) c k1 (Nat.cast l : Int) (Nat.cast c : Int) s fun s3p s3l s3c =>
   RunS P (Builtin.append_ #[t, t] ty #[.slice s2p s2l s2c, .slice s3p s3l s3c]) w fun s4p s4l s4c w0 =>
    SlC s4p s4c (Nat.cast s4l : Int) (Nat.cast l : Int) (Nat.cast s4c : Int) s fun s5p s5l s5c => RunU P (Builtin.clear_ #[t] 0 #[.slice s5p s5l s5c]) w0 fun w1 => K s4p s4l s4c w1 := by
 subst e0
 subst e1
 have hpos := hE.pos
 obtain ⟨hol, ⟨h0, _⟩ | ⟨g', rest, hp, hlc, hcm, hcl, hr⟩⟩ := hs.own i hi
 ·cases h0
 cases hp
 have hgi := get_set_self (b := Row g (xs ++ rest) e) hi
 have hks : k * s + s <= l * s := by rw [<- Nat.succ_mul]; exact Nat.mul_le_mul_right _ hk
 have hls : l * s <= c * s := Nat.mul_le_mul_right _ hlc
 have hl1 : (l - 1) * s + s = l * s := by rw [<- Nat.succ_mul]; congr 1; omega
 have hk1 : (k + 1) * s = k * s + s := Nat.succ_mul k s
 refine SlC.of 0 k c rfl rfl rfl (by omega) (by omega) (by omega) ?_
 refine SlC.of (k + 1) l c rfl rfl rfl (by omega) (by omega) (by omega) ?_
 simp only [slAddr_zero, Nat.sub_zero]
 have last : ∀ (w0 : World) (cs : List Value), Sat (L.set i (Row g (xs.take (k * s) ++ xs.drop ((k + 1) * s) ++ cs) e)) w0 -> c * s <= (xs.take (k * s) ++ xs.drop ((k + 1) * s) ++ cs).length ->
   SlC (some ⟨g, 0, none⟩) c (Nat.cast (l - 1) : Int) (Nat.cast l : Int) (Nat.cast c : Int) s fun s5p s5l s5c => RunU P (Builtin.clear_ #[t] 0 #[.slice s5p s5l s5c]) w0 fun w1 => K (some ⟨g, 0, none⟩) (l - 1) c w1 := by
  intro w0 cs h2 hcl2
  have hxl : (xs.take (k * s) ++ xs.drop ((k + 1) * s)).length = (l - 1) * s := by
   rw [List.length_append, List.length_take, List.length_drop]; omega
  refine SlC.of (l - 1) l c rfl rfl rfl (by omega) (by omega) (by omega) ?_
  have hpa : slAddr (some ⟨g, 0, none⟩) c (l - 1) s = some ⟨g, (l - 1) * s, none⟩ := by unfold slAddr; rw [if_neg (by omega)]; simp [add_mk]
  rw [hpa, show l - (l - 1) = 1 by omega]
  refine RunU.clearN hE.slice hz hzs hone hpos h2 i (get_set_self hi) (by omega) fun w1 h3 => h w1 ?_
  rw [set_set_self] at h3
  have e2 : (xs.take (k * s) ++ xs.drop ((k + 1) * s) ++ cs).take ((l - 1) * s) = xs.take (k * s) ++ xs.drop ((k + 1) * s) := by rw [<- hxl]; exact List.take_left
  rw [e2, List.append_assoc] at h3
  have h4 := h3.mkOwn (s := s) (l := l - 1) (c := c) i (get_set_self hi) hxl (by omega) hcm (by
   simp only [List.length_append, List.length_take, List.length_drop, zero_len, hzs, hol] at hcl2 ⊢
   omega)
  rw [set_set_self] at h4
  exact h4
 by_cases hm0 : l - (k + 1) = 0
 ·rw [hm0]
  have hkl : k = l - 1 := by omega
  refine RunS.nothing hE (by omega) ?_
  have hd : xs.drop ((k + 1) * s) = [] := List.drop_eq_nil_of_le (by rw [hol]; exact Nat.mul_le_mul_right _ (by omega))
  have := last w (xs.drop (k * s) ++ rest) (by
   rw [hd, List.append_nil, <- List.append_assoc, List.take_append_drop]
   exact hr) (by
   rw [hd, List.append_nil, <- List.append_assoc, List.take_append_drop]
   exact hcl)
  rw [<- hkl] at this
  exact this
 ·have hml : c ≠ k + 1 := by omega
  have hrd := hs.reads i hi
  have hsrc : Reads w (slAddr (some ⟨g, 0, none⟩) c (k + 1) s) ((xs.drop ((k + 1) * s)).take ((l - (k + 1)) * s)) := (hrd.slice (n := l - (k + 1))).resolve_right hml
  have hq : slAddr (some ⟨g, 0, none⟩) c (k + 1) s = some ⟨g, (k + 1) * s, none⟩ := by unfold slAddr; rw [if_neg hml]; simp [add_mk]
  rw [hq] at hsrc ⊢
  have hms : (l - (k + 1)) * s + (k + 1) * s = l * s := by rw [<- Nat.add_mul]; congr 1; omega
  have hdl : (xs.drop ((k + 1) * s)).length = (l - (k + 1)) * s := by rw [List.length_drop]; omega
  rw [List.take_of_length_le (by omega)] at hsrc
  have hlen : k + (l - (k + 1)) = l - 1 := by omega
  refine RunS.inRow hE hr i hgi hsrc hdl (fun u hu => hx1 u (List.mem_of_mem_drop hu)) (by omega) hcl fun w0 h2 => ?_
  rw [set_set_self] at h2
  rw [hlen]
  have e3 : (xs ++ rest).take (k * s) = xs.take (k * s) := List.take_append_of_le_length (by omega)
  rw [e3, List.append_assoc] at h2
  refine last w0 _ (by rw [List.append_assoc]; exact h2) ?_
  rw [List.length_append, List.length_append, List.length_take, List.length_drop, List.length_drop, List.length_append] at *
  omega
end
end Go.Lw
