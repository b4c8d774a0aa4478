/- Nothing of the shelf is wanted here. -/
import Derived.Test.YthkibgdeibolfaaProg
import Derived.Lib.Strings
