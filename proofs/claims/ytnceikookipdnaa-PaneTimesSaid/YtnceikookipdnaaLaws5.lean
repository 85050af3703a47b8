/-
  The call of the law PaneTimes: it returns true, and nothing that was there has changed.
-/
import Derived.Test.YtnceikookipdnaaLaws3
import Derived.Test.YtnceikookipdnaaPAll2x9
namespace Go.Proofs.Ytnceikookipdnaa.Math2
open Go.RowKit Go.Proofs.Ytnceikookipdnaa.PAll2
theorem times_walk (s d l : Int) (_h0 : (Lit.int .i64 s).wf = true) (_h1 : (Lit.int .i64 d).wf = true) (_h2 : (Lit.int .i64 l).wf = true) (t : Int) (_h3 : (Lit.int .i64 t).wf = true) (b : Int) (_h4 : (Lit.int .i64 b).wf = true) (w : World) :
    Calls Try.prog 7 #[.agg #[.int .i64 s, .int .i64 d, .int .i64 l], .int .i64 t, .int .i64 b] w fun e w' => e = .returned (.bool true) ∧ Below w.heap.size w w' :=
  spatelaw4_PaneTimes.calls 2000 s d l t b true w (times_pure s d l t b)
end Go.Proofs.Ytnceikookipdnaa.Math2
