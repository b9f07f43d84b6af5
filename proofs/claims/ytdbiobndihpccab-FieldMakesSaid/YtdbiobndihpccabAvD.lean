/- Arguments of the laws of this seat, read as typed values. -/
import Derived.Test.YtdbiobndihpccabAvCore33
import Derived.Test.YtdbiobndihpccabAvM
namespace Go.Av
set_option linter.unusedSimpArgs false
open Go.ChangeShapes Go.WideShapes Go.ChangeAt Go.RowKit
set_option linter.unusedVariables false
end Go.Av
