import Derived.Test.YtblakognnfilaaaDoorPgP
set_option linter.unusedSimpArgs false
set_option linter.unusedVariables false
namespace Go.Proofs.YtblakognnfilaaaDoor
open Go.RowKit

/-! ### two pages with the same cells have the same bytes -/
theorem bodyL_congr {P Q : Pg} (h1 : P.kind = Q.kind) (h2 : P.level = Q.level) (h3 : P.store = Q.store) (h4 : P.next = Q.next) : ∀ n, (∀ j, j < n → P.st j = Q.st j ∧ P.dt j = Q.dt j) → bodyL P n = bodyL Q n
  | 0, _ => by
    show headN P 4 = headN Q 4
    simp only [headN, numP, h1, h2, h3, h4]
  | n + 1, h => by
    rw [bodyL, bodyL, bodyL_congr h1 h2 h3 h4 n (fun j hj => h j (by omega)), (h n (by omega)).1, (h n (by omega)).2]
theorem pageS_congr {P Q : Pg} (h : pgC P = pgC Q) : pageS P = pageS Q := by
  unfold pgC at h
  simp only [Array.mk.injEq, List.cons.injEq, Value.int.injEq, Value.string.injEq, true_and, and_true] at h
  obtain ⟨h1, h2, h3, h4, h5, h6, h7, h8, h9, h10, h11, h12, h13, h14, h15, h16⟩ := h
  unfold pageS
  rw [bodyL_congr h1 h2 h3 h4 6 (fun j hj => ?_)]
  match j, hj with
  | 0, _ => exact ⟨h5, h6⟩
  | 1, _ => exact ⟨h7, h8⟩
  | 2, _ => exact ⟨h9, h10⟩
  | 3, _ => exact ⟨h11, h12⟩
  | 4, _ => exact ⟨h13, h14⟩
  | 5, _ => exact ⟨h15, h16⟩
theorem pageS_inj {P Q : Pg} (hP : PgOk P) (hQ : PgOk Q) (h : pageS P = pageS Q) : pgC P = pgC Q := by
  rw [← dec_enc hP, ← dec_enc hQ, h]
end Go.Proofs.YtblakognnfilaaaDoor
