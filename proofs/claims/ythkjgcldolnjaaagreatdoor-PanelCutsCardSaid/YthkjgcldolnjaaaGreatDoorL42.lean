/- The reference: corners, places, walked. Conditions: the panel is valid. -/
import Derived.Test.YthkjgcldolnjaaaGreatDoorL39
import Derived.Test.YthkjgcldolnjaaaGreatDoorL20
namespace Go.Proofs.YthkjgcldolnjaaaGreatDoor
open Go.RowKit Go.ChangeMaps
set_option maxHeartbeats 4000000
set_option maxRecDepth 100000

attribute [local go_sem] Oper.semAt_some
/-! # The reference: corners, places, strips -/
/-! ## places -/
end Go.Proofs.YthkjgcldolnjaaaGreatDoor
