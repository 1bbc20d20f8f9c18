/- A text of the proof: a verified executor of the program form, or the contracts of the functions that the law reaches. -/
import Derived.Test.YtecdkapjjhkanaaNearSame
set_option linter.all false
namespace Go.Proofs.Ytecdkapjjhkanaa
open Go Go.Vx
set_option maxRecDepth 10000
set_option maxHeartbeats 1000000
theorem rNearest_ok' (den : Int) (ls : List Line) (lo hi n : Int) : CSpec Try.prog 15 [.agg (calL den ls lo hi), .int .i64 n] (.tuple [.int .i64 (outNear den ls lo hi n).1, .int .i64 (outNear den ls lo hi n).2]) := by
  rw [← near_same]; exact rNearest_ok den ls lo hi n

theorem mtA35 : tAgg Try.prog 35 4 = true := by kernel_rfl
theorem mtB4 : (match Try.prog.underlying 4 with | some .bool => true | _ => false) = true := by kernel_rfl

-- law5.SeriesCalibrationMatchesSpec (function 5)
theorem calm_ok (den : Int) (ls : List Line) (lo hi v n : Int) : CSpec Try.prog 5 [.agg (calL den ls lo hi), .int .i64 v, .int .i64 n] (.bool true) := by
  refine spec_of (by kernel_rfl) Try.func5 rfl rfl ?_
  intro w0 A
  refine T_keep (kc 0 rfl <| kc 1 rfl <| kc 2 rfl <| kn) rfl ?_
  refine T_seq (T_reg ?_)   -- region 0
  refine R_w _ _ rfl (w_box 0 rfl (ov rfl) mtA35 rfl) ?_
  refine R_q _ rfl (v_assign (ov rfl)) ?_
  refine R_nil ?_
  refine T_keep (kc 1 rfl <| kc 2 rfl <| kc 3 rfl <| kn) rfl ?_
  refine T_seq (T_reg ?_)   -- region 1
  refine R_q _ rfl ((by first | exact v_loadA (ov rfl) rfl rfl rfl mtA35 rfl rfl | exact v_loadA_r (ov rfl) mtA35 rfl rfl)) ?_
  refine R_q _ rfl (v_move (ov rfl)) ?_
  refine R_q _ rfl (v_call (Apply_ok _ _ _ _ _) (.cons (ov rfl) (by first | exact .b rfl | exact .aggB rfl | exact .fn) <| .cons (ov rfl) (by first | exact .b rfl | exact .aggB rfl | exact .fn) <| .nil)) ?_
  refine R_q _ rfl (v_move (ov rfl)) ?_
  refine R_q _ rfl (v_extract (ov rfl) rfl) ?_
  refine R_q _ rfl (v_extract (ov rfl) rfl) ?_
  refine R_q _ rfl (v_extract (ov rfl) rfl) ?_
  refine R_q _ rfl (v_assign (ov rfl)) ?_
  refine R_q _ rfl (v_assign (ov rfl)) ?_
  refine R_q _ rfl (v_assign (ov rfl)) ?_
  refine R_nil ?_
  refine T_keep (kc 1 rfl <| kc 2 rfl <| kc 3 rfl <| kc 7 rfl <| kc 8 rfl <| kc 9 rfl <| kn) rfl ?_
  refine T_seq (T_reg ?_)   -- region 2
  refine R_q _ rfl ((by first | exact v_loadA (ov rfl) rfl rfl rfl mtA35 rfl rfl | exact v_loadA_r (ov rfl) mtA35 rfl rfl)) ?_
  refine R_q _ rfl (v_move (ov rfl)) ?_
  refine R_q _ rfl (v_call (rApply_ok _ _ _ _ _) (.cons (ov rfl) (by first | exact .b rfl | exact .aggB rfl | exact .fn) <| .cons (ov rfl) (by first | exact .b rfl | exact .aggB rfl | exact .fn) <| .nil)) ?_
  refine R_q _ rfl (v_move (ov rfl)) ?_
  refine R_q _ rfl (v_extract (ov rfl) rfl) ?_
  refine R_q _ rfl (v_extract (ov rfl) rfl) ?_
  refine R_q _ rfl (v_extract (ov rfl) rfl) ?_
  refine R_q _ rfl (v_assign (ov rfl)) ?_
  refine R_q _ rfl (v_assign (ov rfl)) ?_
  refine R_q _ rfl (v_assign (ov rfl)) ?_
  refine R_nil ?_
  refine T_seq ?_
  refine T_keep (kc 2 rfl <| kc 3 rfl <| kc 7 rfl <| kc 8 rfl <| kc 9 rfl <| kc 10 rfl <| kc 11 rfl <| kc 12 rfl <| kn) rfl ?_
  refine T_seq (T_draw (cw := false) (by kernel_rfl) ?_)   -- region 3 draws
  refine D_read 0 _ rfl (by kernel_rfl) rfl rfl (fun hp' hx => (by first | exact v_loadA (ov rfl) (hx.2 _ _ rfl) rfl rfl mtA35 rfl rfl | exact v_loadA_r (ov rfl) mtA35 rfl rfl)) ?_
  refine D_read 1 _ rfl (by kernel_rfl) rfl rfl (fun hp' hx => v_call (chkC_ok _ _ _ _) (.cons (ov rfl) (by first | exact .b rfl | exact .aggB rfl | exact .fn) <| .nil)) ?_
  refine D_oner 2 _ rfl (by kernel_rfl) rfl rfl (fun hp' hx => (by first | exact v_loadA (ov rfl) (hx.2 _ _ rfl) rfl rfl mtA35 rfl rfl | exact v_loadA_r (ov rfl) mtA35 rfl rfl)) ?_
  refine D_oner 3 _ rfl (by kernel_rfl) rfl rfl (fun hp' hx => v_call (rchkC_ok _ _ _ _) (.cons (ov rfl) (by first | exact .b rfl | exact .aggB rfl | exact .fn) <| .nil)) ?_
  refine D_oneq 4 _ rfl (by kernel_rfl) rfl rfl (fun hp' => v_neq (ov rfl) (ov rfl)) ?_
  refine D_oneq 5 _ rfl (by kernel_rfl) rfl rfl (fun hp' => v_move (ov rfl)) ?_
  refine D_free 6 _ rfl (by kernel_rfl) rfl rfl (fun hp' => .guarded _ rfl rfl rfl rfl fun h => v_move (ov rfl)) ?_
  refine D_oneq 7 _ rfl (by kernel_rfl) rfl rfl (fun hp' => .guarded _ rfl rfl rfl rfl fun h => v_move (ov rfl)) ?_
  refine D_oneq 8 _ rfl (by kernel_rfl) rfl rfl (fun hp' => .guarded _ rfl rfl rfl rfl fun h => v_neq (ow rfl h) (ow rfl h)) ?_
  refine D_oneq 9 _ rfl (by kernel_rfl) rfl rfl (fun hp' => v_or (ov rfl) (fun hp => ow rfl (gF hp))) ?_
  refine D_oneq 10 _ rfl (by kernel_rfl) rfl rfl (fun hp' => v_move (ov rfl)) ?_
  refine D_free 11 _ rfl (by kernel_rfl) rfl rfl (fun hp' => .guarded _ rfl rfl rfl rfl fun h => v_move (ov rfl)) ?_
  refine D_oneq 12 _ rfl (by kernel_rfl) rfl rfl (fun hp' => .guarded _ rfl rfl rfl rfl fun h => v_move (ov rfl)) ?_
  refine D_oneq 13 _ rfl (by kernel_rfl) rfl rfl (fun hp' => .guarded _ rfl rfl rfl rfl fun h => tBool_eq .neq (by simp) (ow rfl h) (ow rfl h) mtB4) ?_
  refine D_oneq 14 _ rfl (by kernel_rfl) rfl rfl (fun hp' => v_or (ov rfl) (fun hp => ow rfl (gF hp))) ?_
  refine D_oneq 15 _ rfl (by kernel_rfl) rfl rfl (fun hp' => v_move (ov rfl)) ?_
  refine D_free 16 _ rfl (by kernel_rfl) rfl rfl (fun hp' => .guarded _ rfl rfl rfl rfl fun h => v_move (ov rfl)) ?_
  refine D_oneq 17 _ rfl (by kernel_rfl) rfl rfl (fun hp' => .guarded _ rfl rfl rfl rfl fun h => v_move (ov rfl)) ?_
  refine D_oneq 18 _ rfl (by kernel_rfl) rfl rfl (fun hp' => .guarded _ rfl rfl rfl rfl fun h => v_neq (ow rfl h) (ow rfl h)) ?_
  refine D_oneq 19 _ rfl (by kernel_rfl) rfl rfl (fun hp' => v_or (ov rfl) (fun hp => ow rfl (gF hp))) ?_
  refine D_done (by kernel_rfl) ?_
  refine T_keep (kc 2 rfl <| kc 3 rfl <| kc 46 rfl <| kn) rfl ?_
  refine T_cond rfl (fun h46 => ?_) (fun h46 => ?_)
  · skip
    exact absurd h46 (by simp)
  · skip
    try simp at h46
    refine T_skip ?_
    refine T_keep (kc 2 rfl <| kc 3 rfl <| kn) rfl ?_
    refine T_seq (T_reg ?_)   -- region 5
    refine R_q _ rfl ((by first | exact v_loadA (ov rfl) rfl rfl rfl mtA35 rfl rfl | exact v_loadA_r (ov rfl) mtA35 rfl rfl)) ?_
    refine R_q _ rfl (v_move (ov rfl)) ?_
    refine R_q _ rfl (v_call (Nearest_ok _ _ _ _ _) (.cons (ov rfl) (by first | exact .b rfl | exact .aggB rfl | exact .fn) <| .cons (ov rfl) (by first | exact .b rfl | exact .aggB rfl | exact .fn) <| .nil)) ?_
    refine R_q _ rfl (v_move (ov rfl)) ?_
    refine R_q _ rfl (v_extract (ov rfl) rfl) ?_
    refine R_q _ rfl (v_extract (ov rfl) rfl) ?_
    refine R_q _ rfl (v_assign (ov rfl)) ?_
    refine R_q _ rfl (v_assign (ov rfl)) ?_
    refine R_nil ?_
    refine T_keep (kc 2 rfl <| kc 3 rfl <| kc 7 rfl <| kc 9 rfl <| kn) rfl ?_
    refine T_seq (T_reg ?_)   -- region 6
    refine R_q _ rfl ((by first | exact v_loadA (ov rfl) rfl rfl rfl mtA35 rfl rfl | exact v_loadA_r (ov rfl) mtA35 rfl rfl)) ?_
    refine R_q _ rfl (v_move (ov rfl)) ?_
    refine R_q _ rfl (v_call (rNearest_ok' den ls lo hi n) (.cons (ov rfl) (by first | exact .b rfl | exact .aggB rfl | exact .fn) <| .cons (ov rfl) (by first | exact .b rfl | exact .aggB rfl | exact .fn) <| .nil)) ?_
    refine R_q _ rfl (v_move (ov rfl)) ?_
    refine R_q _ rfl (v_extract (ov rfl) rfl) ?_
    refine R_q _ rfl (v_extract (ov rfl) rfl) ?_
    refine R_q _ rfl (v_assign (ov rfl)) ?_
    refine R_q _ rfl (v_assign (ov rfl)) ?_
    refine R_nil ?_
    refine T_seq ?_
    refine T_keep (kc 3 rfl <| kc 7 rfl <| kc 9 rfl <| kc 10 rfl <| kc 12 rfl <| kn) rfl ?_
    refine T_seq (T_reg ?_)   -- region 7
    refine R_q _ rfl (v_move (ov rfl)) ?_
    refine R_q _ rfl (v_move (ov rfl)) ?_
    refine R_q _ rfl (v_neq (ov rfl) (ov rfl)) ?_
    refine R_q _ rfl (v_move (ov rfl)) ?_
    refine R_q _ rfl (.guarded _ rfl rfl rfl rfl fun h => v_move (ov rfl)) ?_
    refine R_q _ rfl (.guarded _ rfl rfl rfl rfl fun h => v_move (ov rfl)) ?_
    refine R_q _ rfl (.guarded _ rfl rfl rfl rfl fun h => v_neq (ow rfl h) (ow rfl h)) ?_
    refine R_q _ rfl (v_or (ov rfl) (fun hp => ow rfl (gF hp))) ?_
    refine R_nil ?_
    refine T_keep (kc 3 rfl <| kc 66 rfl <| kn) rfl ?_
    refine T_cond rfl (fun h66 => ?_) (fun h66 => ?_)
    · skip
      exact absurd h66 (by simp)
    · skip
      try simp at h66
      refine T_skip ?_
      refine T_keep (kc 3 rfl <| kn) rfl ?_
      refine T_seq (T_reg ?_)   -- region 9
      refine R_q _ rfl ((by first | exact v_loadA (ov rfl) rfl rfl rfl mtA35 rfl rfl | exact v_loadA_r (ov rfl) mtA35 rfl rfl)) ?_
      refine R_q _ rfl (v_call (Grain_ok _ _ _ _) (.cons (ov rfl) (by first | exact .b rfl | exact .aggB rfl | exact .fn) <| .nil)) ?_
      refine R_q _ rfl (v_move (ov rfl)) ?_
      refine R_q _ rfl (v_extract (ov rfl) rfl) ?_
      refine R_q _ rfl (v_extract (ov rfl) rfl) ?_
      refine R_q _ rfl (v_assign (ov rfl)) ?_
      refine R_q _ rfl (v_assign (ov rfl)) ?_
      refine R_nil ?_
      refine T_keep (kc 3 rfl <| kc 7 rfl <| kc 9 rfl <| kn) rfl ?_
      refine T_seq (T_reg ?_)   -- region 10
      refine R_q _ rfl ((by first | exact v_loadA (ov rfl) rfl rfl rfl mtA35 rfl rfl | exact v_loadA_r (ov rfl) mtA35 rfl rfl)) ?_
      refine R_q _ rfl (v_call (rGrain_ok _ _ _ _) (.cons (ov rfl) (by first | exact .b rfl | exact .aggB rfl | exact .fn) <| .nil)) ?_
      refine R_q _ rfl (v_move (ov rfl)) ?_
      refine R_q _ rfl (v_extract (ov rfl) rfl) ?_
      refine R_q _ rfl (v_extract (ov rfl) rfl) ?_
      refine R_q _ rfl (v_assign (ov rfl)) ?_
      refine R_q _ rfl (v_assign (ov rfl)) ?_
      refine R_nil ?_
      refine T_keep (kc 7 rfl <| kc 9 rfl <| kc 10 rfl <| kc 12 rfl <| kn) rfl ?_
      refine T_seq (T_reg ?_)   -- region 11
      refine R_q _ rfl (v_move (ov rfl)) ?_
      refine R_q _ rfl (v_move (ov rfl)) ?_
      refine R_q _ rfl (v_eql (ov rfl) (ov rfl)) ?_
      refine R_q _ rfl (v_move (ov rfl)) ?_
      refine R_q _ rfl (.guarded _ rfl rfl rfl rfl fun h => v_move (ov rfl)) ?_
      refine R_q _ rfl (.guarded _ rfl rfl rfl rfl fun h => v_move (ov rfl)) ?_
      refine R_q _ rfl (.guarded _ rfl rfl rfl rfl fun h => v_eql (ow rfl h) (ow rfl h)) ?_
      refine R_q _ rfl (v_and (ov rfl) (fun hp => ow rfl (gT hp))) ?_
      refine R_q _ rfl (v_move (ov rfl)) ?_
      refine R_q _ rfl (.guarded _ rfl rfl rfl rfl fun h => v_call holds_ok (.nil)) ?_
      refine R_q _ rfl (v_and (ov rfl) (fun hp => ow rfl (gT hp))) ?_
      refine R_q _ rfl (v_assign (ov rfl)) ?_
      refine R_nil ?_
      refine T_ret ?_
      refine retq ?_ (.one (.tmp rfl (Dat.view (.b rfl))))
      simp
end Go.Proofs.Ytecdkapjjhkanaa
