/- The reference: corners, places, walked. Conditions: the panel is valid. -/
import Derived.Test.YtkkefahobjlagaaGreatDoorN39
import Derived.Test.YtkkefahobjlagaaGreatDoorN20
import Derived.Test.YtkkefahobjlagaaGreatDoorN17
