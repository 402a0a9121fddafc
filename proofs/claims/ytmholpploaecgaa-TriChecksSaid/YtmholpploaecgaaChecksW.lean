/-
  TriChecks: the walk, as the frame takes it.
-/
import Derived.Test.YtmholpploaecgaaChecks14
namespace Go.Proofs.Ytmholpploaecgaa
open Go.RowKit
theorem trichecks_w {w : World} {s : SmallR} (hs : s.good) (draw : Int) (hd : (Lit.int .i64 draw).wf = true) (what : Int) (hwh : (Lit.int .u8 what).wf = true) (n : Int) (hn : (Lit.int .i64 n).wf = true) {t : TriR} (ht : t.good) :
    Calls Try.prog 3 #[s.val, .int .i64 draw, .int .u8 what, .int .i64 n, t.val] w fun e w' => e = .returned (.bool true) ∧ Below w.heap.size w w' := trichecks_walk hs hd hwh hn ht
end Go.Proofs.Ytmholpploaecgaa
