/- More of rows by counting: what stands in a row, and that it rises. -/
import Derived.Test.YtkdpfbefdhjmcaaRowsPure
set_option linter.unusedVariables false
set_option linter.unusedSimpArgs false
namespace Go.Proofs.Ytkdpfbefdhjmcaa.RowP
theorem rowOf_at {f : Nat → Nat} {m v j : Nat} (h : j < cnt f m v) : f ((rowOf f m v).getD j 0) = v ∧ (rowOf f m v).getD j 0 < m := by
  have hj : j < (rowOf f m v).length := h
  have hm : (rowOf f m v)[j] ∈ rowOf f m v := List.getElem_mem hj
  rw [List.getD_eq_getElem?_getD, List.getElem?_eq_getElem hj]
  have h2 := List.mem_filter.1 hm
  exact ⟨by simpa using h2.2, List.mem_range.1 h2.1⟩
theorem rowOf_rising {f : Nat → Nat} {m v i j : Nat} (hij : i < j) (h : j < cnt f m v) : (rowOf f m v).getD i 0 < (rowOf f m v).getD j 0 := by
  have hj : j < (rowOf f m v).length := h
  have hp : (rowOf f m v).Pairwise (· < ·) := (List.pairwise_lt_range (n := m)).filter _
  rw [List.getD_eq_getElem?_getD, List.getD_eq_getElem?_getD, List.getElem?_eq_getElem hj, List.getElem?_eq_getElem (show i < (rowOf f m v).length by omega)]
  exact List.pairwise_iff_getElem.1 hp i j (by omega) hj hij
end Go.Proofs.Ytkdpfbefdhjmcaa.RowP
