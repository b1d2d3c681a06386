/- The reference: corners, places, walked. Conditions: the panel is valid. -/
import Derived.Test.YtkkefahobjlagaaGreatDoorQ39
import Derived.Test.YtkkefahobjlagaaGreatDoorQ20
import Derived.Test.YtkkefahobjlagaaGreatDoorQ17
