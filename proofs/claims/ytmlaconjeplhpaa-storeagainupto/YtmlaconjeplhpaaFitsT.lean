/- Both: the arguments' shapes, and the law StoreAgain. -/
import Derived.Test.YtmlaconjeplhpaaFitsP
import Derived.Test.YtmlaconjeplhpaaStoreS
