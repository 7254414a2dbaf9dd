
/- The bulk of what is read. -/
import Derived.Test.YtagnepjmgkoboaaLaw
import Derived.JoinedCond
namespace Go.Proofs.Ytagnepjmgkoboaa
open Go Go.Lw Go.ChangeShapes Go.WideShapes Go.ChangeAt Go.RowKit
/-! The bulk of what is read. -/
theorem bulk_pos {H : Type} (d : DataW H) : 1 ≤ Rows.uptoBulk d := by
  cases d with
  | lit l => cases l <;> simp [Rows.uptoBulk]
  | _ => simp [Rows.uptoBulk]
theorem bulkAll_len {H : Type} : ∀ ds : List (DataW H), ds.length ≤ Rows.uptoBulkAll ds
  | [] => by simp
  | d :: r => by
    have h1 := bulk_pos d
    have h2 := bulkAll_len r
    simp only [Rows.uptoBulkAll, List.length_cons]
    omega
theorem bulkAll_mem {H : Type} : ∀ (ds : List (DataW H)) (d : DataW H), d ∈ ds → Rows.uptoBulk d ≤ Rows.uptoBulkAll ds
  | [], _, h => by cases h
  | e :: r, d, h => by
    simp only [Rows.uptoBulkAll]
    rcases List.mem_cons.1 h with rfl | h
    · omega
    · have := bulkAll_mem r d h
      omega
theorem small_slice {H : Type} {ds elems spare : List (DataW H)} (h : Rows.uptoSmall H ds = true) (hm : .slice elems spare ∈ ds) : elems.length ≤ 1048576 := by
  have h1 : Rows.uptoBulkAll ds ≤ 1048576 := of_decide_eq_true h
  have h2 := bulkAll_mem ds _ hm
  have h3 := bulkAll_len elems
  simp only [Rows.uptoBulk] at h2
  omega

end Go.Proofs.Ytagnepjmgkoboaa
