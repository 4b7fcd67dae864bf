/- The library's texts and the base. -/
import Derived.Test.YtkhaafonmkjjmaaGreatDoorMtLib
import Derived.Test.YtkhaafonmkjjmaaGreatDoorKzp
