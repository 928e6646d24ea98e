-- Laid by a program of this session (wip/mp.py) over the kit's print.
import Derived.Test.YtkcfigfhbeohfaaG0
import Derived.Test.YtkcfigfhbeohfaaG1
import Derived.Test.YtkcfigfhbeohfaaG2
import Derived.Test.YtkcfigfhbeohfaaG3
import Derived.Test.YtkcfigfhbeohfaaG4
import Derived.Test.YtkcfigfhbeohfaaG5
import Derived.Test.YtkcfigfhbeohfaaG6
namespace Go.Proofs.Ytkcfigfhbeohfaa.G
open Go.RowKit Go.Proofs.YtkcfigfhbeohfaaW.PrintWords Go.Proofs.YtkcfigfhbeohfaaW.PrintLast Go.Proofs.YtkcfigfhbeohfaaW.PrintMore
attribute [local go_sem] max2_int min2_int max_two min_two max_three min_three max_four min_four   -- for this text's walks alone
set_option linter.unusedVariables false
set_option linter.unusedSimpArgs false

end Go.Proofs.Ytkcfigfhbeohfaa.G
