/- Both: the arguments' shapes, and the law StoreNil. -/
import Derived.Test.YtmlaconjeplhpaaFitsP
import Derived.Test.YtmlaconjeplhpaaStoreU
