/- All of them. Printed by a program of mine (gs.py). -/
import Derived.Test.YtnpdeecoejabgaaFA4
