/- The documents' examples of the numbers' chapters, reckoned by the kernel. -/
import Derived.Test.YtpanbfainilmpaaEv24
import Derived.Test.YtpanbfainilmpaaEvN0
import Derived.KernelRfl
set_option linter.unusedVariables false
set_option linter.unusedSimpArgs false
set_option maxRecDepth 100000
namespace Go.Proofs.Ytpanbfainilmpaa.Ev.N
open Go Go.Proofs.Ytpanbfainilmpaa.Ev
theorem awake_of {k n : Nat} (h : (mkK AA XX n).call k [] = some [.one (.sc (.bool true))]) : (KL AA XX).call k [] = some [.one (.sc (.bool true))] := (KL_call AA XX).2 ⟨n, h⟩
theorem awake62 : (KL AA XX).call 62 [] = some [.one (.sc (.bool true))] := awake_of (n := 200) (by kernel_rfl)
theorem awake82 : (KL AA XX).call 82 [] = some [.one (.sc (.bool true))] := awake_of (n := 300) (by kernel_rfl)
end Go.Proofs.Ytpanbfainilmpaa.Ev.N
