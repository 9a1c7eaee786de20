-- written by a program of this session (patchprint.py over the kit's print)
import Derived.Test.YtonlknpghifodaaDoorPx0
import Derived.Test.YtonlknpghifodaaDoorPx1
namespace Go.Proofs.YtonlknpghifodaaDoor.P
open Go.RowKit Go.Proofs.YtonlknpghifodaaDoorW.PrintWords Go.Proofs.YtonlknpghifodaaDoorW.PrintLast Go.Proofs.YtonlknpghifodaaDoorW.PrintMore
attribute [local go_sem] max2_int min2_int max_two min_two max_three min_three max_four min_four   -- for this text's walks alone
set_option linter.unusedVariables false
set_option linter.unusedSimpArgs false

end Go.Proofs.YtonlknpghifodaaDoor.P
