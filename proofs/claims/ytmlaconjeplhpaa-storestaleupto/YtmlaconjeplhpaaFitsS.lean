/- Both: the arguments' shapes, and the law StoreStale. -/
import Derived.Test.YtmlaconjeplhpaaFitsP
import Derived.Test.YtmlaconjeplhpaaStoreR
