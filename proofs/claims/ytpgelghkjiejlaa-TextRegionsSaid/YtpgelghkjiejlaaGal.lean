/- The ink of a letter, by the run. -/
import Derived.Test.YtpgelghkjiejlaaGak
set_option linter.unusedVariables false
set_option linter.unusedSimpArgs false
set_option maxRecDepth 100000
namespace Go.Proofs.Ytpgelghkjiejlaa
open Go
theorem run_region : isReg ((runAll known1 tabF 300).call 16 [.ag (fontC false), .i .i64 0, .i .i64 5, .s [65]] 1 .lf) = true := by kernel_rfl
end Go.Proofs.Ytpgelghkjiejlaa
