/- Contracts of the program's functions, one plain Lean function for each, written by a program of this session's over the kit's print; Lean checks every line. -/
import Derived.Test.YtbljhjgmpldncaaPR0
import Derived.Test.YtbljhjgmpldncaaPR1
import Derived.Test.YtbljhjgmpldncaaPR2
import Derived.Test.YtbljhjgmpldncaaPR3
import Derived.Test.YtbljhjgmpldncaaPR4
import Derived.Test.YtbljhjgmpldncaaPR5
import Derived.Test.YtbljhjgmpldncaaPR6
import Derived.Test.YtbljhjgmpldncaaPR7
import Derived.Test.YtbljhjgmpldncaaPR8
import Derived.Test.YtbljhjgmpldncaaPR9
import Derived.Test.YtbljhjgmpldncaaPR10
import Derived.Test.YtbljhjgmpldncaaPR11
import Derived.Test.YtbljhjgmpldncaaPR12
import Derived.Test.YtbljhjgmpldncaaPR13
import Derived.Test.YtbljhjgmpldncaaPR14
import Derived.Test.YtbljhjgmpldncaaPR15
import Derived.Test.YtbljhjgmpldncaaPR16
import Derived.Test.YtbljhjgmpldncaaPR17
import Derived.Test.YtbljhjgmpldncaaPR18
namespace Go.Proofs.Ytbljhjgmpldncaa.PR
open Go.RowKit Go.Proofs.YtbljhjgmpldncaaW.PrintWords Go.Proofs.YtbljhjgmpldncaaW.PrintLast Go.Proofs.YtbljhjgmpldncaaW.PrintMore
attribute [local go_sem] max2_int min2_int max_two min_two max_three min_three max_four min_four   -- for this text's walks alone
set_option linter.unusedVariables false
set_option linter.unusedSimpArgs false

end Go.Proofs.Ytbljhjgmpldncaa.PR
