import Derived.Test.YtjemfkoamfnofaaGreatRec
set_option linter.unusedVariables false
namespace Go.Proofs.YtjemfkoamfnofaaGreat
open Go
def Rows.push : Rows → RV → Option Rows
 | .int k a, .val (.int k' n) => bif k == k' then some (.int k (a ++ [n])) else none
 | .bool a, .val (.bool x) => some (.bool (a ++ [x]))
 | .vec a, .rcd (.vec x) => some (.vec (a ++ [x]))
 | .times a, .rcd (.times x) => some (.times (a ++ [x]))
 | .clocks a, .rcd (.clocks x) => some (.clocks (a ++ [x]))
 | .states a, .rcd (.states x) => some (.states (a ++ [x]))
 | .flags a, .rcd (.flags x) => some (.flags (a ++ [x]))
 | .msg a, .rcd (.msg x) => some (.msg (a ++ [x]))
 | .port a, .rcd (.port x) => some (.port (a ++ [x]))
 | .sent a, .rcd (.sent x) => some (.sent (a ++ [x]))
 | .conf a, .rcd (.conf x) => some (.conf (a ++ [x]))
 | .todo a, .rcd (.todo x) => some (.todo (a ++ [x]))
 | _, _ => none
theorem Rows.push_ok {R Q : Rows} {v : RV} (h : R.push v = some Q) : Q.cells = R.cells ++ v.cells ∧ Q.len = R.len + 1 ∧ Q.z = R.z := by
 unfold Rows.push at h
 split at h
 · rename_i k a k' n
   cases hb : (k == k') with
   | false => rw [hb] at h; cases h
   | true =>
     rw [hb] at h
     have := beq_iff_eq.1 hb; subst this
     simp only [cond_true, Option.some.injEq] at h
     subst h
     simp [Rows.cells, RV.cells, Rows.len, Rows.z]
 · injection h with h; subst h; simp [Rows.cells, RV.cells, Rows.len, Rows.z, Rec.cells]
 · injection h with h; subst h; simp [Rows.cells, RV.cells, Rows.len, Rows.z, Rec.cells]
 · injection h with h; subst h; simp [Rows.cells, RV.cells, Rows.len, Rows.z, Rec.cells]
 · injection h with h; subst h; simp [Rows.cells, RV.cells, Rows.len, Rows.z, Rec.cells]
 · injection h with h; subst h; simp [Rows.cells, RV.cells, Rows.len, Rows.z, Rec.cells]
 · injection h with h; subst h; simp [Rows.cells, RV.cells, Rows.len, Rows.z, Rec.cells]
 · injection h with h; subst h; simp [Rows.cells, RV.cells, Rows.len, Rows.z, Rec.cells]
 · injection h with h; subst h; simp [Rows.cells, RV.cells, Rows.len, Rows.z, Rec.cells]
 · injection h with h; subst h; simp [Rows.cells, RV.cells, Rows.len, Rows.z, Rec.cells]
 · injection h with h; subst h; simp [Rows.cells, RV.cells, Rows.len, Rows.z, Rec.cells]
 · injection h with h; subst h; simp [Rows.cells, RV.cells, Rows.len, Rows.z, Rec.cells]
 · cases h
end Go.Proofs.YtjemfkoamfnofaaGreat
