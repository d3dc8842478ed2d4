/- The law HideLower at some of its arguments, by the abstract machine. No condition. -/
import Derived.Test.YtjmdmpfekoinbaaGreatImg17
namespace Go.Proofs.YtjmdmpfekoinbaaGreat.L17
theorem HideLower_1_f : AMK.isTrue ((AMK.big env2 100000).call 6 [.sc (.int .i64 (.ofNat 1)), .sc (.str [102])] AMK.H.empty) = true := by kernel_rfl
theorem HideLower_2_f : AMK.isTrue ((AMK.big env2 100000).call 6 [.sc (.int .i64 (.ofNat 2)), .sc (.str [102])] AMK.H.empty) = true := by kernel_rfl
theorem HideLower_3_f : AMK.isTrue ((AMK.big env2 100000).call 6 [.sc (.int .i64 (.ofNat 3)), .sc (.str [102])] AMK.H.empty) = true := by kernel_rfl
end Go.Proofs.YtjmdmpfekoinbaaGreat.L17
