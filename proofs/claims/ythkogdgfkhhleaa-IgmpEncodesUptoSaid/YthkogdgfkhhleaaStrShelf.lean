/- Nothing of the shelf is wanted here. -/
import Derived.Test.YthkogdgfkhhleaaProg
import Derived.Lib.Strings
