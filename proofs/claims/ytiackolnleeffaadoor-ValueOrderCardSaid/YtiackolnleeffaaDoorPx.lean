-- written by a program of this session (patchprint.py over the kit's print)
import Derived.Test.YtiackolnleeffaaDoorPx0
import Derived.Test.YtiackolnleeffaaDoorPx1
import Derived.Test.YtiackolnleeffaaDoorPx2
import Derived.Test.YtiackolnleeffaaDoorPx3
import Derived.Test.YtiackolnleeffaaDoorPx4
import Derived.Test.YtiackolnleeffaaDoorPx5
import Derived.Test.YtiackolnleeffaaDoorPx6
import Derived.Test.YtiackolnleeffaaDoorPx7
import Derived.Test.YtiackolnleeffaaDoorPx8
namespace Go.Proofs.YtiackolnleeffaaDoor.P
open Go.RowKit Go.Proofs.YtiackolnleeffaaDoorW.PrintWords Go.Proofs.YtiackolnleeffaaDoorW.PrintLast Go.Proofs.YtiackolnleeffaaDoorW.PrintMore
attribute [local go_sem] max2_int min2_int max_two min_two max_three min_three max_four min_four   -- for this text's walks alone
set_option linter.unusedVariables false
set_option linter.unusedSimpArgs false

end Go.Proofs.YtiackolnleeffaaDoor.P
