/- The law HideTwice at some of its arguments, by the abstract machine. No condition. -/
import Derived.Test.YtjmdmpfekoinbaaGreatImg17
namespace Go.Proofs.YtjmdmpfekoinbaaGreat.L17
theorem HideTwice_1_s : AMK.isTrue ((AMK.big env2 100000).call 7 [.sc (.int .i64 (.ofNat 1)), .sc (.str [115])] AMK.H.empty) = true := by kernel_rfl
theorem HideTwice_2_s : AMK.isTrue ((AMK.big env2 100000).call 7 [.sc (.int .i64 (.ofNat 2)), .sc (.str [115])] AMK.H.empty) = true := by kernel_rfl
theorem HideTwice_3_s : AMK.isTrue ((AMK.big env2 100000).call 7 [.sc (.int .i64 (.ofNat 3)), .sc (.str [115])] AMK.H.empty) = true := by kernel_rfl
end Go.Proofs.YtjmdmpfekoinbaaGreat.L17
