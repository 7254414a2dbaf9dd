
/- What take comes to. -/
import Derived.Test.YtpicofkhioalkaaTj
set_option maxRecDepth 100000
namespace Go.Proofs.Ytpicofkhioalkaa
open Go Go.Lw Go.Wd Go.Am Go.Tb Go.Hm Go.Kd Go.Td

section
variable {v : Value} {b : Nat} {E : Eng v b} {s : E.σ} {F : List HP} {w : World}
/-- what take leaves. -/
def TakeP (E : Eng v b) (s : E.σ) (t : Nat) (es : List Ent) (hs : List Nat) (key : K) (F : List HP) (e : Ending) (w' : World) : Prop :=
  ∃ (s' : E.σ) (es' : List Ent) (hs' : List Nat) (old : Nat) (had : Bool) (A o C : KV), e = .returned (.tuple #[.int .u64 (old : Int), .bool had]) ∧ Cut (kv es) key A o C ∧ kv es' = A ++ C ∧ (o = [] ∧ had = false ∧ old = 0 ∨ o = [(key, old)] ∧ had = true) ∧
    TrS E s' t es' hs' ∧ St E s hs s' hs' 0 0 ∧ Sat (E.S s' F) w'
theorem TrS.tmem {t : Nat} {es : List Ent} {hs : List Nat} (h : TrS E s t es hs) : t ∈ hs := by
  rcases h.tree.at_ with ⟨_, h, _⟩ | ⟨_, _, _, _, _, h⟩
  · rw [h]; simp
  · exact h.mem_iff.2 (by simp)
/-- what is known of the leaf that a way by a key leads to. -/
structure Leaf (E : Eng v b) (s : E.σ) (t : Nat) (es : List Ent) (hs : List Nat) (c : Kid) (d : Nat) (bs : List Fr) (k : Kid) (L : List Kid) : Prop where
  perm : hs.Perm (t :: k.x :: (hsOf L ++ whs bs))
  nd : (t :: k.x :: (hsOf L ++ whs bs)).Nodup
  ok : ∀ z ∈ t :: k.x :: (hsOf L ++ whs bs), E.ok s z
  ne : L ≠ []
  eq : es = lefts bs ++ esOf L ++ rights bs
  srt : Srt (esOf L)
  zip : Zip (E.ov s) bs 1 (firstK L, k.x)
  top : E.ov s t = some (treeO (topx bs k.x) es.length (d + 1))
  topok : E.ok s (topx bs k.x)
  fk : firstK L ∈ hsOf L
theorem leaf_of {I : List Ent → Kid → List Ent → Prop} {t d : Nat} {es : List Ent} {hs : List Nat} {c k : Kid} {bs : List Fr} {L : List Kid} (hT : TrS E s t es hs) (e1 : E.ov s t = some (treeO c.x es.length (d + 1))) (e2 : Rep (E.ov s) (d + 1) (if d = 0 then 1 else 2) c) (e3 : es = c.es) (e4 : hs.Perm (t :: c.hs))
    (hDn : Dn (E.ov s) c (if d = 0 then 1 else 2) I bs k 1) (hkes : k.es = esOf L) (hkhs : k.hs = k.x :: hsOf L) (hmin : (if bs = [] then 1 else 6) ≤ L.length) (hreps : ∀ a ∈ L, Rep (E.ov s) 0 6 a) : Leaf E s t es hs c d bs k L := by
  have hvp : hs.Perm (t :: k.x :: (hsOf L ++ whs bs)) := e4.trans (List.Perm.cons _ (hDn.hs.trans (by rw [hkhs]; exact List.Perm.refl _)))
  have hL : L ≠ [] := by
    intro e0; rw [e0] at hmin
    split at hmin <;> simp at hmin
  have hes0 : es = lefts bs ++ esOf L ++ rights bs := by rw [e3, hDn.es, hkes]
  have hsrt := hT.tree.srt
  rw [hes0] at hsrt
  have hfk0 : k.k = firstK L := by
    obtain ⟨c', r', rfl⟩ := List.exists_cons_of_ne_nil hL
    obtain ⟨e', r'', he'⟩ := List.exists_cons_of_ne_nil ((hreps c' (by simp)).ne (by omega))
    simp only [firstK, Kid.k, hkes, esOf_cons, he', List.cons_append]
  exact ⟨hvp, hvp.nodup_iff.1 hT.tree.nd, fun z hz => hT.ok z (hvp.mem_iff.2 hz), hL, hes0, (srt_append.1 (srt_append.1 hsrt).1).2.1, by have := hDn.zip; unfold Kid.pr at this; rw [hfk0] at this; exact this,
    by rw [hDn.top]; exact e1, by rw [hDn.top]; exact hT.ok _ (e4.mem_iff.2 (by simp [e2.xmem])), firstK_mem hL hreps⟩

end
end Go.Proofs.Ytpicofkhioalkaa
