/- Plain laws: the best columns on both sides. -/
import Derived.Test.YtpjcfmpfiadkgaaFPFl5

namespace Go.Gx.F

open Go.Gx

set_option linter.all false

set_option maxRecDepth 10000

theorem cols_eq {t : impl_Transport} {rows : List Int} (hl : rows.length ≤ 1000) : impl_colsFor t rows = spec_tColumns t rows := by
  have h2 : ∀ j, impl_colsFor_l2 t rows j = spec_tColumns_l2 t rows j := fun j => by
    funext ⟨a, b, c⟩
    simp only [impl_colsFor_l2, spec_tColumns_l2, contains_ok hl, has_ok hl]
  have h1 : impl_colsFor_l1 t rows = spec_tColumns_l1 t rows := by
    funext ⟨a, b⟩
    simp only [impl_colsFor_l1, spec_tColumns_l1, h2]
  unfold impl_colsFor spec_tColumns
  rw [h1]

end Go.Gx.F
