-- Laid by wip/printx.py, over the print of the kit.
import Derived.Test.YtkgajiddcljdjaaPAllx0
import Derived.Test.YtkgajiddcljdjaaPAllx1
import Derived.Test.YtkgajiddcljdjaaPAllx2
import Derived.Test.YtkgajiddcljdjaaPAllx3
import Derived.Test.YtkgajiddcljdjaaPAllx4
import Derived.Test.YtkgajiddcljdjaaPAllx5
import Derived.Test.YtkgajiddcljdjaaPAllx6
import Derived.Test.YtkgajiddcljdjaaPAllx7
import Derived.Test.YtkgajiddcljdjaaPAllx8
import Derived.Test.YtkgajiddcljdjaaPAllx9
import Derived.Test.YtkgajiddcljdjaaPAllx10
import Derived.Test.YtkgajiddcljdjaaPAllx11
import Derived.Test.YtkgajiddcljdjaaPAllx12
import Derived.Test.YtkgajiddcljdjaaPAllx13
import Derived.Test.YtkgajiddcljdjaaPAllx14
import Derived.Test.YtkgajiddcljdjaaPAllx15
import Derived.Test.YtkgajiddcljdjaaPAllx16
import Derived.Test.YtkgajiddcljdjaaPAllx17
namespace Go.Proofs.Ytkgajiddcljdjaa.PAll
open Go.RowKit Go.Proofs.YtkgajiddcljdjaaW.PrintWords Go.Proofs.YtkgajiddcljdjaaW.PrintLast Go.Proofs.YtkgajiddcljdjaaW.PrintMore
attribute [local go_sem] max2_int min2_int max_two min_two max_three min_three max_four min_four   -- for this text's walks alone
set_option linter.unusedVariables false
set_option linter.unusedSimpArgs false

end Go.Proofs.Ytkgajiddcljdjaa.PAll
