/- The fixed examples of chapter 05, reckoned. -/
import Derived.Test.YtlpbjbgfgfjnlaaAvEval
import Derived.Test.YtlpbjbgfgfjnlaaAvTab
import Derived.KernelRfl
set_option maxRecDepth 100000
namespace Go.AVM
def rat0 : AV := .agg [.bool false, .sl [] 1 false, .bool false, .sl [.int .u32 1] 1 false]
def rat1 : AV := .agg [.bool false, .sl [.int .u32 1] 1 false, .bool false, .sl [.int .u32 1] 1 false]
def ratM : AV := .agg [.bool true, .sl [.int .u32 1] 1 false, .bool false, .sl [.int .u32 1] 1 false]
theorem ex_s0 : callPure (run tab) 58 [rat0, rat0] = some rat0 := pureIs_run (O := noneE) (n := 30) noneE_sound (by kernel_rfl)
theorem ex_s1 : callPure (run tab) 58 [ratM, rat0] = some ratM := pureIs_run (O := noneE) (n := 30) noneE_sound (by kernel_rfl)
theorem ex_m0 : callPure (run tab) 59 [rat0, rat0] = some rat0 := pureIs_run (O := noneE) (n := 30) noneE_sound (by kernel_rfl)
theorem ex_m1 : callPure (run tab) 59 [rat0, rat1] = some rat0 := pureIs_run (O := noneE) (n := 30) noneE_sound (by kernel_rfl)
theorem ex_m2 : callPure (run tab) 59 [rat0, ratM] = some rat0 := pureIs_run (O := noneE) (n := 30) noneE_sound (by kernel_rfl)
theorem ex_w0 : callPure (run tab) 52 [.int .i64 0] = some rat0 := pureIs_run (O := noneE) (n := 30) noneE_sound (by kernel_rfl)
theorem ex_w1 : callPure (run tab) 52 [.int .i64 1] = some rat1 := pureIs_run (O := noneE) (n := 30) noneE_sound (by kernel_rfl)
theorem ex_w2 : callPure (run tab) 52 [.int .i64 (-1)] = some ratM := pureIs_run (O := noneE) (n := 30) noneE_sound (by kernel_rfl)
theorem ex_g0 : callPure (run tab) 55 [rat0] = some (.int .i64 0) := pureIs_run (O := noneE) (n := 30) noneE_sound (by kernel_rfl)
theorem ex_g1 : callPure (run tab) 55 [rat1] = some (.int .i64 1) := pureIs_run (O := noneE) (n := 30) noneE_sound (by kernel_rfl)
theorem ex_g2 : callPure (run tab) 55 [ratM] = some (.int .i64 (-1)) := pureIs_run (O := noneE) (n := 30) noneE_sound (by kernel_rfl)
theorem ex_d1 : callPure (run tab) 57 [rat0, rat1] = some (.tup [rat0, .int .i64 0]) := pureIs_run (O := noneE) (n := 30) noneE_sound (by kernel_rfl)
theorem ex_d2 : callPure (run tab) 57 [rat0, ratM] = some (.tup [rat0, .int .i64 0]) := pureIs_run (O := noneE) (n := 30) noneE_sound (by kernel_rfl)
def ratKnown : Known := [(58, [rat0, rat0], rat0), (58, [ratM, rat0], ratM), (59, [rat0, rat0], rat0), (59, [rat0, rat1], rat0), (59, [rat0, ratM], rat0), (52, [.int .i64 0], rat0), (52, [.int .i64 1], rat1), (52, [.int .i64 (-1)], ratM),
  (55, [rat0], .int .i64 0), (55, [rat1], .int .i64 1), (55, [ratM], .int .i64 (-1)), (57, [rat0, rat1], .tup [rat0, .int .i64 0]), (57, [rat0, ratM], .tup [rat0, .int .i64 0])]
theorem ratKnown_sound : ∀ f a r, askE ratKnown f a = some r → callPure (run tab) f a = some r := askE_sound fun e he => by
  simp only [ratKnown, List.mem_cons, List.not_mem_nil, or_false] at he
  rcases he with rfl | rfl | rfl | rfl | rfl | rfl | rfl | rfl | rfl | rfl | rfl | rfl | rfl
  · exact ex_s0
  · exact ex_s1
  · exact ex_m0
  · exact ex_m1
  · exact ex_m2
  · exact ex_w0
  · exact ex_w1
  · exact ex_w2
  · exact ex_g0
  · exact ex_g1
  · exact ex_g2
  · exact ex_d1
  · exact ex_d2
def exRow (l : List Int) : AV := .agg (l.map (AV.int .i64))
def exRev : AV := .sl [exRow [1,1,1,1,1,1,1,1], exRow [0,0,0,0,0,0,0,-1], exRow [0,0,0,0,0,0,-1,0], exRow [0,0,0,0,0,-1,0,0], exRow [0,0,0,0,-1,0,0,0], exRow [0,0,0,-1,0,0,0,0], exRow [0,0,-1,0,0,0,0,0], exRow [0,-1,0,0,0,0,0,0]] 8 false
theorem ex_i0 : callPure (run tab) 45 [.sl [] 8 false] = some (.bool false) := pureIs_run (n := 30) ratKnown_sound (by kernel_rfl)
theorem ex_i1 : callPure (run tab) 45 [.sl [exRow [1,1,1,1,1,1,1,1]] 8 false] = some (.bool false) := pureIs_run (n := 30) ratKnown_sound (by kernel_rfl)
theorem ex_i2 : callPure (run tab) 45 [exRev] = some (.bool true) := pureIs_run (n := 30) ratKnown_sound (by kernel_rfl)
def indKnown : Known := [(45, [.sl [] 8 false], .bool false), (45, [.sl [exRow [1,1,1,1,1,1,1,1]] 8 false], .bool false), (45, [exRev], .bool true)]
theorem indKnown_sound : ∀ f a r, askE indKnown f a = some r → callPure (run tab) f a = some r := askE_sound fun e he => by
  simp only [indKnown, List.mem_cons, List.not_mem_nil, or_false] at he
  rcases he with rfl | rfl | rfl
  · exact ex_i0
  · exact ex_i1
  · exact ex_i2
theorem run_examples5 : callPure (run tab) 8 [] = some (.bool true) := pureIs_run (n := 30) indKnown_sound (by kernel_rfl)
end Go.AVM
