/- What the last texts want of the library. -/
import Derived.Test.YthkogdgfkhhleaaBase
import Derived.ProofKit
import Derived.OpenShut
import Derived.SizedLaws
import Derived.Lib.SmallJoins
