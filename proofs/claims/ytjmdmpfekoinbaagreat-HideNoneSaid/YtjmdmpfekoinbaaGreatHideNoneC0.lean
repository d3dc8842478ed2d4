/- The law HideNone at some of its arguments, by the abstract machine. No condition. -/
import Derived.Test.YtjmdmpfekoinbaaGreatImg17
namespace Go.Proofs.YtjmdmpfekoinbaaGreat.L17
theorem HideNone_1_0 : AMK.isTrue ((AMK.big env2 100000).call 5 [.sc (.int .i64 (.ofNat 1)), .sc (.int .i64 (.ofNat 0))] AMK.H.empty) = true := by kernel_rfl
theorem HideNone_2_0 : AMK.isTrue ((AMK.big env2 100000).call 5 [.sc (.int .i64 (.ofNat 2)), .sc (.int .i64 (.ofNat 0))] AMK.H.empty) = true := by kernel_rfl
theorem HideNone_3_0 : AMK.isTrue ((AMK.big env2 100000).call 5 [.sc (.int .i64 (.ofNat 3)), .sc (.int .i64 (.ofNat 0))] AMK.H.empty) = true := by kernel_rfl
end Go.Proofs.YtjmdmpfekoinbaaGreat.L17
