/- Nothing but what it imports. -/
import Derived.Test.YtmeakhiiebeneaaGreatDoorM3
import Derived.Test.YtmeakhiiebeneaaGreatDoorM1
