/- What Text's walk leans on, on the roll seat. -/
import Derived.Test.YtdbikchddonjnaaWt
import Derived.Test.YtdbikchddonjnaaPAx5
