/- Words of the printed proofs: of what the kit's print lays, the part that these proofs lead to. No conditions. -/
import Derived.Test.YtcdnoklokoplaaaDoorWApart
import Derived.Test.YtcdnoklokoplaaaDoorWArr
