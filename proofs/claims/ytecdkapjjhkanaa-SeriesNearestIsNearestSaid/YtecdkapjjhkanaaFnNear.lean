/- A text of the proof: a verified executor of the program form, or the contracts of the functions that the law reaches. -/
import Derived.Test.YtecdkapjjhkanaaNearPure
set_option linter.all false
namespace Go.Proofs.Ytecdkapjjhkanaa
open Go Go.Vx
set_option maxRecDepth 10000
set_option maxHeartbeats 1000000

theorem ntA35 : tAgg Try.prog 35 4 = true := by kernel_rfl

-- law5.SeriesNearestIsNearest (function 4)
theorem near_ok (den : Int) (ls : List Line) (lo hi n v : Int) : CSpec Try.prog 4 [.agg (calL den ls lo hi), .int .i64 n, .int .i64 v] (.bool true) := by
  refine spec_of (by kernel_rfl) Try.func4 rfl rfl ?_
  intro w0 A
  refine T_keep (kc 0 rfl <| kc 1 rfl <| kc 2 rfl <| kn) rfl ?_
  refine T_seq (T_reg ?_)   -- region 0
  refine R_w _ _ rfl (w_box 0 rfl (ov rfl) ntA35 rfl) ?_
  refine R_q _ rfl (v_assign (ov rfl)) ?_
  refine R_nil ?_
  refine T_keep (kc 1 rfl <| kc 2 rfl <| kc 3 rfl <| kn) rfl ?_
  refine T_seq (T_reg ?_)   -- region 1
  refine R_q _ rfl ((by first | exact v_loadA (ov rfl) rfl rfl rfl ntA35 rfl rfl | exact v_loadA_r (ov rfl) ntA35 rfl rfl)) ?_
  refine R_q _ rfl (v_move (ov rfl)) ?_
  refine R_q _ rfl (v_call (Nearest_ok den ls lo hi n) (.cons (ov rfl) (by first | exact .b rfl | exact .aggB rfl | exact .fn) <| .cons (ov rfl) (by first | exact .b rfl | exact .aggB rfl | exact .fn) <| .nil)) ?_
  refine R_q _ rfl (v_move (ov rfl)) ?_
  refine R_q _ rfl (v_extract (ov rfl) rfl) ?_
  refine R_q _ rfl (v_extract (ov rfl) rfl) ?_
  refine R_q _ rfl (v_assign (ov rfl)) ?_
  refine R_q _ rfl (v_assign (ov rfl)) ?_
  refine R_nil ?_
  refine T_seq ?_
  refine T_keep (kc 1 rfl <| kc 2 rfl <| kc 3 rfl <| kc 7 rfl <| kc 8 rfl <| kn) rfl ?_
  refine T_seq (T_reg ?_)   -- region 2
  refine R_q _ rfl (v_move (ov rfl)) ?_
  refine R_q _ rfl (v_neq (ov rfl) (ov rfl)) ?_
  refine R_nil ?_
  refine T_keep (kc 1 rfl <| kc 2 rfl <| kc 3 rfl <| kc 7 rfl <| kc 24 rfl <| kn) rfl ?_
  refine T_cond rfl (fun h24 => ?_) (fun h24 => ?_)
  · skip
    try simp at h24
    refine T_keep (kn) rfl ?_
    refine T_seq (T_reg ?_)   -- region 3
    refine R_q _ rfl (v_call holds_ok (.nil)) ?_
    refine R_q _ rfl (v_assign (ov rfl)) ?_
    refine R_nil ?_
    refine T_ret ?_
    refine retq ?_ (.one (.tmp rfl (Dat.view (.b rfl))))
    first | rfl | simp_all
  · skip
    have h0 : (outNear den ls lo hi n).2 = 0 := by simpa using h24
    obtain ⟨g1, g2, g3, g4, g5, g6, g7⟩ := near_law (v := v) h0
    have hnn : -1125899906842624 ≤ n ∧ n ≤ 1125899906842624 := by simpa [wi] using g1
    obtain ⟨k1, k2, k3, k4, k5⟩ := g2
    refine T_skip ?_
    refine T_keep (kc 1 rfl <| kc 2 rfl <| kc 3 rfl <| kc 7 rfl <| kn) rfl ?_
    refine T_seq (T_reg ?_)   -- region 4
    refine R_q _ rfl ((by first | exact v_loadA (ov rfl) rfl rfl rfl ntA35 rfl rfl | exact v_loadA_r (ov rfl) ntA35 rfl rfl)) ?_
    refine R_q _ rfl (v_move (ov rfl)) ?_
    refine R_q _ rfl (v_call (Apply_ok den ls lo hi (outNear den ls lo hi n).1) (.cons (ov rfl) (by first | exact .b rfl | exact .aggB rfl | exact .fn) <| .cons (ov rfl) (by first | exact .b rfl | exact .aggB rfl | exact .fn) <| .nil)) ?_
    refine R_q _ rfl (v_move (ov rfl)) ?_
    refine R_q _ rfl (v_extract (ov rfl) rfl) ?_
    refine R_q _ rfl (v_extract (ov rfl) rfl) ?_
    refine R_q _ rfl (v_extract (ov rfl) rfl) ?_
    refine R_q _ rfl (v_assign (ov rfl)) ?_
    refine R_q _ rfl (v_assign (ov rfl)) ?_
    refine R_q _ rfl (v_assign (ov rfl)) ?_
    refine R_nil ?_
    refine T_keep (kc 1 rfl <| kc 2 rfl <| kc 3 rfl <| kc 7 rfl <| kc 9 rfl <| kc 10 rfl <| kc 11 rfl <| kn) rfl ?_
    refine T_seq (T_reg ?_)   -- region 5
    refine R_q _ rfl ((by first | exact v_loadA (ov rfl) rfl rfl rfl ntA35 rfl rfl | exact v_loadA_r (ov rfl) ntA35 rfl rfl)) ?_
    refine R_q _ rfl (v_move (ov rfl)) ?_
    refine R_q _ rfl (v_call (Apply_ok den ls lo hi v) (.cons (ov rfl) (by first | exact .b rfl | exact .aggB rfl | exact .fn) <| .cons (ov rfl) (by first | exact .b rfl | exact .aggB rfl | exact .fn) <| .nil)) ?_
    refine R_q _ rfl (v_move (ov rfl)) ?_
    refine R_q _ rfl (v_extract (ov rfl) rfl) ?_
    refine R_q _ rfl (v_extract (ov rfl) rfl) ?_
    refine R_q _ rfl (v_extract (ov rfl) rfl) ?_
    refine R_q _ rfl (v_assign (ov rfl)) ?_
    refine R_q _ rfl (v_assign (ov rfl)) ?_
    refine R_q _ rfl (v_assign (ov rfl)) ?_
    refine R_nil ?_
    refine T_seq ?_
    refine T_keep (kc 1 rfl <| kc 2 rfl <| kc 7 rfl <| kc 9 rfl <| kc 10 rfl <| kc 11 rfl <| kc 12 rfl <| kc 13 rfl <| kc 14 rfl <| kn) rfl ?_
    refine T_seq (T_reg ?_)   -- region 6
    refine R_q _ rfl (v_move (ov rfl)) ?_
    refine R_q _ rfl (v_neq (ov rfl) (ov rfl)) ?_
    refine R_q _ rfl (v_move (ov rfl)) ?_
    refine R_q _ rfl (.guarded _ rfl rfl rfl rfl fun h => v_move (ov rfl)) ?_
    refine R_q _ rfl (.guarded _ rfl rfl rfl rfl fun h => v_neq (ow rfl h) (ov rfl)) ?_
    refine R_q _ rfl (v_or (ov rfl) (fun hp => ow rfl (gF hp))) ?_
    refine R_q _ rfl (v_move (ov rfl)) ?_
    refine R_q _ rfl (.guarded _ rfl rfl rfl rfl fun h => v_move (ov rfl)) ?_
    refine R_q _ rfl (.guarded _ rfl rfl rfl rfl fun h => v_not (ow rfl h)) ?_
    refine R_q _ rfl (v_or (ov rfl) (fun hp => ow rfl (gF hp))) ?_
    refine R_nil ?_
    refine T_keep (kc 1 rfl <| kc 2 rfl <| kc 7 rfl <| kc 9 rfl <| kc 12 rfl <| kc 13 rfl <| kc 49 rfl <| kn) rfl ?_
    refine T_cond rfl (fun h49 => ?_) (fun h49 => ?_)
    · skip
      exact absurd h49 (by simp [g3, g4, g5])
    · skip
      try simp at h49
      refine T_skip ?_
      refine T_seq ?_
      refine T_keep (kc 1 rfl <| kc 2 rfl <| kc 7 rfl <| kc 9 rfl <| kc 12 rfl <| kc 13 rfl <| kn) rfl ?_
      refine T_seq (T_reg ?_)   -- region 8
      refine R_q _ rfl (v_move (ov rfl)) ?_
      refine R_q _ rfl (v_not (ov rfl)) ?_
      refine R_nil ?_
      refine T_keep (kc 1 rfl <| kc 2 rfl <| kc 7 rfl <| kc 9 rfl <| kc 12 rfl <| kc 51 rfl <| kn) rfl ?_
      refine T_cond rfl (fun h51 => ?_) (fun h51 => ?_)
      · skip
        try simp at h51
        refine T_keep (kn) rfl ?_
        refine T_seq (T_reg ?_)   -- region 9
        refine R_q _ rfl (v_call holds_ok (.nil)) ?_
        refine R_q _ rfl (v_assign (ov rfl)) ?_
        refine R_nil ?_
        refine T_ret ?_
        refine retq ?_ (.one (.tmp rfl (Dat.view (.b rfl))))
        first | rfl | simp_all
      · skip
        have ht : (outApply den ls lo hi v).2.1 = true := by simpa using h51
        obtain ⟨g8, g9⟩ := g7 ht
        refine T_skip ?_
        refine T_keep (kc 1 rfl <| kc 2 rfl <| kc 7 rfl <| kc 9 rfl <| kc 12 rfl <| kn) rfl ?_
        refine T_seq (T_reg ?_)   -- region 10
        refine R_q _ rfl (v_move (ov rfl)) ?_
        refine R_q _ rfl (v_move (ov rfl)) ?_
        refine R_q _ rfl (v_sub (ov rfl) (ov rfl) (w64 (by first | omega | (simp at *; omega) | (simp_all; omega)) (by first | omega | (simp at *; omega) | (simp_all; omega)))) ?_
        refine R_q _ rfl (v_move (ov rfl)) ?_
        refine R_q _ rfl (v_move (ov rfl)) ?_
        refine R_q _ rfl (v_sub (ov rfl) (ov rfl) (w64 (by first | omega | (simp at *; omega) | (simp_all; omega)) (by first | omega | (simp at *; omega) | (simp_all; omega)))) ?_
        refine R_q _ rfl (v_max (ov rfl) (ov rfl) rfl) ?_
        refine R_q _ rfl (v_move (ov rfl)) ?_
        refine R_q _ rfl (v_move (ov rfl)) ?_
        refine R_q _ rfl (v_sub (ov rfl) (ov rfl) (w64 (by first | omega | (simp at *; omega) | (simp_all; omega)) (by first | omega | (simp at *; omega) | (simp_all; omega)))) ?_
        refine R_q _ rfl (v_move (ov rfl)) ?_
        refine R_q _ rfl (v_move (ov rfl)) ?_
        refine R_q _ rfl (v_sub (ov rfl) (ov rfl) (w64 (by first | omega | (simp at *; omega) | (simp_all; omega)) (by first | omega | (simp at *; omega) | (simp_all; omega)))) ?_
        refine R_q _ rfl (v_max (ov rfl) (ov rfl) rfl) ?_
        refine R_q _ rfl (v_assign (ov rfl)) ?_
        refine R_q _ rfl (v_assign (ov rfl)) ?_
        refine R_nil ?_
        refine T_keep (kc 2 rfl <| kc 7 rfl <| kc 15 rfl <| kc 16 rfl <| kn) rfl ?_
        refine T_seq (T_reg ?_)   -- region 11
        refine R_q _ rfl (v_move (ov rfl)) ?_
        refine R_q _ rfl (v_move (ov rfl)) ?_
        refine R_q _ rfl (v_lss (ov rfl) (ov rfl)) ?_
        refine R_q _ rfl (v_move (ov rfl)) ?_
        refine R_q _ rfl (.guarded _ rfl rfl rfl rfl fun h => v_move (ov rfl)) ?_
        refine R_q _ rfl (.guarded _ rfl rfl rfl rfl fun h => v_move (ov rfl)) ?_
        refine R_q _ rfl (.guarded _ rfl rfl rfl rfl fun h => v_eql (ow rfl h) (ow rfl h)) ?_
        refine R_q _ rfl (.guarded _ rfl rfl rfl rfl fun h => v_move (ow rfl h)) ?_
        refine R_q _ rfl (.guarded2 _ rfl rfl rfl rfl fun h => v_move (ov rfl)) ?_
        refine R_q _ rfl (.guarded2 _ rfl rfl rfl rfl fun h => v_move (ov rfl)) ?_
        refine R_q _ rfl (.guarded2 _ rfl rfl rfl rfl fun h => v_leq (ow rfl h) (ow rfl h)) ?_
        refine R_q _ rfl (.guarded _ rfl rfl rfl rfl fun h => v_and (ow rfl h) (fun hp => ow rfl (gA h (gT hp)))) ?_
        refine R_q _ rfl (v_or (ov rfl) (fun hp => ow rfl (gF hp))) ?_
        refine R_q _ rfl (v_move (ov rfl)) ?_
        refine R_q _ rfl (.guarded _ rfl rfl rfl rfl fun h => v_call holds_ok (.nil)) ?_
        refine R_q _ rfl (v_and (ov rfl) (fun hp => ow rfl (gT hp))) ?_
        refine R_q _ rfl (v_assign (ov rfl)) ?_
        refine R_nil ?_
        refine T_ret ?_
        refine retq ?_ (.one (.tmp rfl (Dat.view (.b rfl))))
        unfold bestP at g9
        simp only at g9
        refine congrArg AV.bool ?_
        simp only [Bool.and_true, Bool.or_eq_true, Bool.and_eq_true, decide_eq_true_eq]
        omega
end Go.Proofs.Ytecdkapjjhkanaa
