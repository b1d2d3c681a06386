/- The statement MendRestores, walked. Conditions: slices that read as lists. -/
import Derived.Test.YthcnngoaijgnoaaGreatK11
import Derived.Test.YthcnngoaijgnoaaGreatLw13J
namespace Go.Proofs.YthcnngoaijgnoaaGreat
open Go.RowKit

theorem mendRestores_any {v u : Value} (N D : List Bar) (w : World) (hN : SlB w v N) (hD : SlB w u D) : Calls Tryz.prog 12 #[.agg #[v, u]] w (RV w (.bool true)) := by
  cases hv : vldB N D 40 with
  | false => exact mendRestores_no N D w hN hD (.inl hv)
  | true =>
    cases hr : rdyB D with
    | false => exact mendRestores_no N D w hN hD (.inr hr)
    | true => exact mendRestores_yes N D w hN hD hv hr
end Go.Proofs.YthcnngoaijgnoaaGreat
