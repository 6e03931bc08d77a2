/- Contracts of the small functions of package cmp; no condition. -/
import Derived.Test.YtchnnplcpidkiaaDoorB5
namespace Go.Proofs.YtchnnplcpidkiaaDoor
open Go.RowKit
set_option linter.unusedSimpArgs false
set_option linter.unusedVariables false
set_option maxRecDepth 20000

theorem isNaN_int (x : Int) (w : World) : CallsTo 70 #[.int .i64 x] w (fun v _ => v = .bool false) := by
  refine CallsTo.enter 6 (fun _ => True) (fun _ => True) Tryd.func70 rfl rfl rfl rfl (by intros; first | trivial | assumption) ?_
  with_reducible refine JC.seq ?_
  with_reducible refine JC.region ?_
  refine JL.op (JO.val (y_assign) rfl ?_)
  with_reducible refine JL.nil ?_
  with_reducible refine JQ.seq (JC.seq ?_)
  with_reducible refine JC.region ?_
  refine JL.op (JO.val (y_move) rfl ?_)
  refine JL.op (JO.val (y_move) rfl ?_)
  refine JL.op (JO.val (y_neq rfl rfl) rfl ?_)
  refine JL.op (JO.val (y_assign) rfl ?_)
  with_reducible refine JL.nil ?_
  with_reducible refine JQ.seq (JC.ret ?_)
  refine ret_one rfl ResV.tmp (fun w _ => ?_)
  exact congrArg Value.bool (by simp)
def cmpI (x y : Int) : Int := if x < y then -1 else if y < x then 1 else 0
theorem cmp_int (x y : Int) (w : World) : CallsTo 47 #[.int .i64 x, .int .i64 y] w (fun v _ => v = .int .i64 (cmpI x y)) := by
  refine CallsTo.enter 20 (fun _ => True) (fun _ => True) Tryd.func47 rfl rfl rfl rfl (by intros; first | trivial | assumption) ?_
  with_reducible refine JC.seq ?_
  with_reducible refine JC.region ?_
  refine JL.op (JO.val (y_assign) rfl ?_)
  with_reducible refine JL.nil ?_
  with_reducible refine JQ.seq (JC.seq ?_)
  with_reducible refine JC.region ?_
  refine JL.op (JO.val (y_move) rfl ?_)
  refine JL.op (JO.callv (fun wc hc => isNaN_int x wc) rfl rfl rfl ?_)
  refine JL.op (JO.val (y_assign) rfl ?_)
  with_reducible refine JL.nil ?_
  with_reducible refine JQ.seq (JC.seq ?_)
  with_reducible refine JC.region ?_
  refine JL.op (JO.val (y_move) rfl ?_)
  refine JL.op (JO.callv (fun wc hc => isNaN_int y wc) rfl rfl rfl ?_)
  refine JL.op (JO.val (y_assign) rfl ?_)
  with_reducible refine JL.nil ?_
  with_reducible refine JQ.seq (JC.seq (JC.seq ?_))
  with_reducible refine JC.region ?_
  refine JL.op (JO.val (y_move) rfl ?_)
  with_reducible refine JL.nil ?_
  with_reducible refine JQ.seq ?_
  refine JC.cond_false rfl ?_
  with_reducible refine JC.skip (JQ.seq (JC.seq (JC.seq ?_)))
  with_reducible refine JC.region ?_
  refine JL.op (JO.val (y_move) rfl ?_)
  with_reducible refine JL.nil ?_
  with_reducible refine JQ.seq ?_
  refine JC.cond_false rfl ?_
  with_reducible refine JC.skip (JQ.seq (JC.seq (JC.seq ?_)))
  with_reducible refine JC.region ?_
  refine JL.op (JO.val (y_move) rfl ?_)
  refine JL.op (JO.val (y_move) rfl ?_)
  refine JL.op (JO.val (y_lss rfl rfl) rfl ?_)
  with_reducible refine JL.nil ?_
  with_reducible refine JQ.seq ?_
  refine JC.cond rfl (fun h => ?_) (fun h => ?_)
  · with_reducible refine JC.seq ?_
    with_reducible refine JC.region ?_
    refine JL.op (JO.val (y_assign) rfl ?_)
    with_reducible refine JL.nil ?_
    with_reducible refine JQ.seq (JC.ret (JQ.seq_ret ?_))
    refine ret_one rfl ResV.tmp (fun w _ => ?_)
    exact congrArg (Value.int .i64) (by simp at h; simp [cmpI, h])
  · with_reducible refine JC.skip (JQ.seq (JC.seq (JC.seq ?_)))
    with_reducible refine JC.region ?_
    refine JL.op (JO.val (y_move) rfl ?_)
    refine JL.op (JO.val (y_move) rfl ?_)
    refine JL.op (JO.val (y_gtr rfl rfl) rfl ?_)
    with_reducible refine JL.nil ?_
    with_reducible refine JQ.seq ?_
    refine JC.cond rfl (fun h => ?_) (fun h => ?_)
    · with_reducible refine JC.seq ?_
      with_reducible refine JC.region ?_
      refine JL.op (JO.val (y_assign) rfl ?_)
      with_reducible refine JL.nil ?_
      with_reducible refine JQ.seq (JC.ret (JQ.seq_ret ?_))
      refine ret_one rfl ResV.tmp (fun w _ => ?_)
      exact congrArg (Value.int .i64) (by simp at h; simp [cmpI, h]; omega)
    · with_reducible refine JC.skip (JQ.seq (JC.seq ?_))
      with_reducible refine JC.region ?_
      refine JL.op (JO.val (y_assign) rfl ?_)
      with_reducible refine JL.nil ?_
      with_reducible refine JQ.seq (JC.ret ?_)
      refine ret_one rfl ResV.tmp (fun w _ => ?_)
      exact congrArg (Value.int .i64) (by simp at *; simp [cmpI]; omega)
end Go.Proofs.YtchnnplcpidkiaaDoor
