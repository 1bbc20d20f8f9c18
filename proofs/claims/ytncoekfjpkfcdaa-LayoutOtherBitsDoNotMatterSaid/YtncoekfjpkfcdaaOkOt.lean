/- A text of the proof: a verified executor of the program form, or the contracts of the functions that the law reaches. -/
import Derived.Test.YtncoekfjpkfcdaaOkOta
set_option linter.all false
namespace Go.Proofs.Ytncoekfjpkfcdaa
open Go Go.Vx
set_option maxRecDepth 10000
set_option maxHeartbeats 1000000
set_option linter.unusedVariables false
theorem ok_layout_numberOf_1 {v : Int} {r : Int} (h : layout_numberOf_1 v = some r) :
  CSpec Try.prog gl0 104 [.int .i64 v] (.int .i64 r) := by
 unfold layout_numberOf_1 at h
 replace h := bnd0 h
 refine spec_of (by kernel_rfl) Try.func104 rfl rfl ?_
 intro w0 A
 refine T_seq (T_reg ?_)
 refine R_q _ rfl (v_assign (ov rfl)) ?_
 refine R_nil ?_
 refine T_seq (T_reg ?_)
 refine R_q _ rfl (v_move (ov rfl)) ?_
 refine R_q _ rfl (v_assign (ov rfl)) ?_
 refine R_nil ?_
 obtain rfl := rt (v := v) h
 refine T_ret (retq ?_ (.one (.tmp rfl (Dat.view (.b rfl)))))
 rfl

theorem ok_layout_numberOf_2_1 {raw : Int} {c0 : Int} {r : Int × Bool} (h : layout_numberOf_2_1 raw c0 = some r) :
  CSpec Try.prog gl0 106 [.int .i64 raw, .rp [.int .i64 c0] 0] (.tuple [.int .i64 r.1, .bool r.2]) := by
 unfold layout_numberOf_2_1 at h
 replace h := bnd0 h
 refine spec_of (by kernel_rfl) Try.func106 rfl rfl ?_
 intro w0 A
 refine T_seq (T_reg ?_)
 refine R_q _ rfl (v_assign (ov rfl)) ?_
 refine R_q _ rfl (v_assign (ov rfl)) ?_
 refine R_nil ?_
 refine T_seq (T_draw (cw := md0) (by kernel_rfl) ?_)
 refine D_q0 0 _ rfl (by kernel_rfl) rfl rfl (v_move (ov rfl)) ?_
 refine D_q0 1 _ rfl (by kernel_rfl) rfl rfl (v_move (ov rfl)) ?_
 refine D_q0 2 _ rfl (by kernel_rfl) rfl rfl (v_loadS_r (ov rfl) tS3 rfl) ?_
 refine D_q0 3 _ rfl (by kernel_rfl) rfl rfl (v_leq (ov rfl) (ov rfl)) ?_
 refine D_q0 4 _ rfl (by kernel_rfl) rfl rfl (v_assign (ov rfl)) ?_
 refine D_q0 5 _ rfl (by kernel_rfl) rfl rfl (v_assign (ov rfl)) ?_
 refine D_done (by kernel_rfl) ?_
 obtain rfl := rt (v := (raw, (decide (raw ≤ c0)))) h
 refine T_ret (retq ?_ (.two (.tmp rfl (Dat.view (.b rfl))) (.tmp rfl (Dat.view (.b rfl)))))
 rfl

theorem ok_layout_numberOf_2 {high : Int} {r : layout_number} (h : layout_numberOf_2 high = some r) :
  CSpec Try.prog gl0 105 [.int .i64 high, .rp [.fn 104 []] 0] (.agg [.int .i64 r.low, .int .i64 r.high, .fn r.encode.f r.encode.c, .fn r.decode.f r.decode.c]) := by
 unfold layout_numberOf_2 at h
 replace h := bnd0 h
 refine spec_of (by kernel_rfl) Try.func105 rfl rfl ?_
 intro w0 A
 refine T_seq (T_reg ?_)
 refine R_q _ rfl (v_boxD (cvs (ov rfl) (cell1_b rfl)) rfl tZ_3 rfl) ?_
 refine R_w _ _ rfl (w_alloc (row := [_, _, _, _]) 0 rfl tZ102 rfl tZ_102) ?_
 refine R_nil ?_
 refine T_keep (kc 1 rfl <| kc 2 rfl <| kc 3 rfl <| kn) rfl ?_
 refine T_seq (T_reg ?_)
 refine R_q _ rfl (v_loadS_r (ov rfl) tS3 rfl) ?_
 refine R_q _ rfl (v_loadS_r (ov rfl) tS99 rfl) ?_
 refine R_q _ rfl (v_makeFunc (.cons (ov rfl) <| .nil)) ?_
 refine R_q _ rfl (v_build (ys := [_, _, _, _]) tPL102 tHA102 tZ102 (.cons (cvs (ov rfl) (cell1_b rfl)) <| .cons (cvs (ov rfl) (cell1_b rfl)) <| .cons (cvs (ov rfl) (cell1_b rfl)) <| .cons (cvs (ov rfl) (cell1_b rfl)) <| .nil) rfl) ?_
 refine R_w _ _ rfl (w_store (ov rfl) (ov rfl) (cells_agg tA102 rfl) rfl rfl rfl (Nat.le_of_ble_eq_true rfl) (cell1_all rfl) rfl) ?_
 refine R_nil ?_
 obtain rfl := rt (v := (layout_number.mk 0 high (Fv.mk (fun z0 => layout_numberOf_1 z0) 104 []) (Fv.mk (fun z0 => layout_numberOf_2_1 z0 high) 106 [.rp [.int .i64 high] 0]))) h
 refine T_ret (retq ?_ (.one (.agg rfl rfl rfl rfl tA102 rfl rfl (.cons (Dat.view (.b rfl)) <| .cons (Dat.view (.b rfl)) <| .cons (Dat.view (.fn)) <| .cons (Dat.view (.fnC (.cons (.b rfl) <| .nil))) <| .nil))))
 rfl

theorem fok_layout_numberOf_2 {high : Int} {r : layout_number} (h : layout_numberOf_2 high = some r) : FOK99 r.encode ∧ FOK100 r.decode := by
 have key : AllS (fun r => FOK99 r.encode ∧ FOK100 r.decode) (layout_numberOf_2 high) := by
  unfold layout_numberOf_2
  repeat' (first | exact as_none | with_reducible refine as_ite ?_ ?_ | with_reducible refine as_bind fun _ _ => ?_ | with_reducible refine as_t1 ?_)
  all_goals first | exact as_some ⟨⟨rfl, fun z0 _ hz => ok_layout_numberOf_1 hz⟩, ⟨rfl, fun z0 _ hz => ok_layout_numberOf_2_1 hz⟩⟩
 exact key r h

theorem ok_layout_numberOf_3 {c1 : Int} {r : layout_number} (h : layout_numberOf_3 c1 = some r) :
  CSpec Try.prog gl0 107 [.rp [.fn 105 [.rp [.fn 104 []] 0]] 0, .rp [.int .i64 c1] 0] (.agg [.int .i64 r.low, .int .i64 r.high, .fn r.encode.f r.encode.c, .fn r.decode.f r.decode.c]) := by
 unfold layout_numberOf_3 at h
 replace h := bnd0 h
 refine spec_of (by kernel_rfl) Try.func107 rfl rfl ?_
 intro w0 A
 refine T_seq (T_reg ?_)
 refine R_w _ _ rfl (w_alloc (row := [_, _, _, _]) 0 rfl tZ102 rfl tZ_102) ?_
 refine R_nil ?_
 refine T_seq (T_reg ?_)
 refine R_q _ rfl (v_loadS_r (ov rfl) tS147 rfl) ?_
 refine R_q _ rfl (v_loadS_r (ov rfl) tS3 rfl) ?_
 refine R_q _ rfl (v_mul (ov rfl) (ov rfl) rfl) ?_
 refine R_q _ rfl (v_sub (ov rfl) (ov rfl) rfl) ?_
 obtain ⟨y, h_y, h⟩ := bnd h
 refine R_q _ rfl (v_callC (ov rfl) rfl (ok_layout_numberOf_2 h_y) (.cons (ov rfl) (.b rfl) <| .nil)) ?_
 refine R_w _ _ rfl (w_store (ov rfl) (ov rfl) (cells_agg tA102 rfl) rfl rfl rfl (Nat.le_of_ble_eq_true rfl) (cell1_all rfl) rfl) ?_
 refine R_nil ?_
 obtain rfl := rt (v := y) h
 refine T_ret (retq ?_ (.one (.agg rfl rfl rfl rfl tA102 rfl rfl (.cons (Dat.view (.b rfl)) <| .cons (Dat.view (.b rfl)) <| .cons (Dat.view (Dat.fnC (.refl fun x hx => .b (List.all_eq_true.1 (((fok_layout_numberOf_2 h_y).1)).1 x hx)))) <| .cons (Dat.view (Dat.fnC (.refl fun x hx => .b (List.all_eq_true.1 (((fok_layout_numberOf_2 h_y).2)).1 x hx)))) <| .nil))))
 rfl

theorem fok_layout_numberOf_3 {c1 : Int} {r : layout_number} (h : layout_numberOf_3 c1 = some r) : FOK99 r.encode ∧ FOK100 r.decode := by
 have key : AllS (fun r => FOK99 r.encode ∧ FOK100 r.decode) (layout_numberOf_3 c1) := by
  unfold layout_numberOf_3
  repeat' (first | exact as_none | with_reducible refine as_ite ?_ ?_ | with_reducible refine as_bind fun _ _ => ?_ | with_reducible refine as_t1 ?_)
  all_goals first | exact as_some ⟨((fok_layout_numberOf_2 (by assumption)).1), ((fok_layout_numberOf_2 (by assumption)).2)⟩
 exact key r h

theorem ok_layout_numberOf_4  {r : layout_number} (h : layout_numberOf_4  = some r) :
  CSpec Try.prog gl0 108 [.rp [.fn 105 [.rp [.fn 104 []] 0]] 0] (.agg [.int .i64 r.low, .int .i64 r.high, .fn r.encode.f r.encode.c, .fn r.decode.f r.decode.c]) := by
 unfold layout_numberOf_4 at h
 replace h := bnd0 h
 refine spec_of (by kernel_rfl) Try.func108 rfl rfl ?_
 intro w0 A
 refine T_seq (T_reg ?_)
 refine R_w _ _ rfl (w_alloc (row := [_, _, _, _]) 0 rfl tZ102 rfl tZ_102) ?_
 refine R_nil ?_
 refine T_seq (T_reg ?_)
 refine R_q _ rfl (v_loadS_r (ov rfl) tS147 rfl) ?_
 obtain ⟨y, h_y, h⟩ := bnd h
 refine R_q _ rfl (v_callC (ov rfl) rfl (ok_layout_numberOf_2 h_y) (.cons (ov rfl) (.b rfl) <| .nil)) ?_
 refine R_w _ _ rfl (w_store (ov rfl) (ov rfl) (cells_agg tA102 rfl) rfl rfl rfl (Nat.le_of_ble_eq_true rfl) (cell1_all rfl) rfl) ?_
 refine R_nil ?_
 obtain rfl := rt (v := y) h
 refine T_ret (retq ?_ (.one (.agg rfl rfl rfl rfl tA102 rfl rfl (.cons (Dat.view (.b rfl)) <| .cons (Dat.view (.b rfl)) <| .cons (Dat.view (Dat.fnC (.refl fun x hx => .b (List.all_eq_true.1 (((fok_layout_numberOf_2 h_y).1)).1 x hx)))) <| .cons (Dat.view (Dat.fnC (.refl fun x hx => .b (List.all_eq_true.1 (((fok_layout_numberOf_2 h_y).2)).1 x hx)))) <| .nil))))
 rfl

theorem fok_layout_numberOf_4  {r : layout_number} (h : layout_numberOf_4  = some r) : FOK99 r.encode ∧ FOK100 r.decode := by
 have key : AllS (fun r => FOK99 r.encode ∧ FOK100 r.decode) (layout_numberOf_4 ) := by
  unfold layout_numberOf_4
  repeat' (first | exact as_none | with_reducible refine as_ite ?_ ?_ | with_reducible refine as_bind fun _ _ => ?_ | with_reducible refine as_t1 ?_)
  all_goals first | exact as_some ⟨((fok_layout_numberOf_2 (by assumption)).1), ((fok_layout_numberOf_2 (by assumption)).2)⟩
 exact key r h

theorem ok_layout_numberOf_5 {c1 : api_Param} {r : layout_number} (h : layout_numberOf_5 c1 = some r) :
  CSpec Try.prog gl0 109 [.rp [.fn 105 [.rp [.fn 104 []] 0]] 0, .rp [.str c1.Name, .int .i64 c1.Kind, .sl 109 (List.map R109 c1.Parts), .int .i64 c1.First, .int .i64 c1.Every, .int .i64 c1.Times, .int .i64 c1.Step, .sl 9 (List.map R9 c1.Names)] 0] (.agg [.int .i64 r.low, .int .i64 r.high, .fn r.encode.f r.encode.c, .fn r.decode.f r.decode.c]) := by
 unfold layout_numberOf_5 at h
 replace h := bnd0 h
 refine spec_of (by kernel_rfl) Try.func109 rfl rfl ?_
 intro w0 A
 refine T_seq (T_reg ?_)
 refine R_w _ _ rfl (w_alloc (row := [_, _, _, _]) 0 rfl tZ102 rfl tZ_102) ?_
 refine R_nil ?_
 refine T_seq (T_reg ?_)
 refine R_q _ rfl (v_loadS_r (ov rfl) tS147 rfl) ?_
 refine R_q _ rfl (v_fieldR (ov rfl) tF43_7) ?_
 refine R_q _ rfl (v_loadS_r (ov rfl) tS41 rfl) ?_
 refine R_q _ rfl (v_len (slv_sl (ov rfl) tZ_9) tL41 (len_map _ _)) ?_
 refine R_q _ rfl (v_sub (ov rfl) (ov rfl) rfl) ?_
 obtain ⟨y, h_y, h⟩ := bnd h
 refine R_q _ rfl (v_callC (ov rfl) rfl (ok_layout_numberOf_2 h_y) (.cons (ov rfl) (.b rfl) <| .nil)) ?_
 refine R_w _ _ rfl (w_store (ov rfl) (ov rfl) (cells_agg tA102 rfl) rfl rfl rfl (Nat.le_of_ble_eq_true rfl) (cell1_all rfl) rfl) ?_
 refine R_nil ?_
 obtain rfl := rt (v := y) h
 refine T_ret (retq ?_ (.one (.agg rfl rfl rfl rfl tA102 rfl rfl (.cons (Dat.view (.b rfl)) <| .cons (Dat.view (.b rfl)) <| .cons (Dat.view (Dat.fnC (.refl fun x hx => .b (List.all_eq_true.1 (((fok_layout_numberOf_2 h_y).1)).1 x hx)))) <| .cons (Dat.view (Dat.fnC (.refl fun x hx => .b (List.all_eq_true.1 (((fok_layout_numberOf_2 h_y).2)).1 x hx)))) <| .nil))))
 rfl

theorem fok_layout_numberOf_5 {c1 : api_Param} {r : layout_number} (h : layout_numberOf_5 c1 = some r) : FOK99 r.encode ∧ FOK100 r.decode := by
 have key : AllS (fun r => FOK99 r.encode ∧ FOK100 r.decode) (layout_numberOf_5 c1) := by
  unfold layout_numberOf_5
  repeat' (first | exact as_none | with_reducible refine as_ite ?_ ?_ | with_reducible refine as_bind fun _ _ => ?_ | with_reducible refine as_t1 ?_)
  all_goals first | exact as_some ⟨((fok_layout_numberOf_2 (by assumption)).1), ((fok_layout_numberOf_2 (by assumption)).2)⟩
 exact key r h

theorem ok_layout_numberOf_6_1 {v : Int} {c0 : Int} {r : Int} (h : layout_numberOf_6_1 v c0 = some r) :
  CSpec Try.prog gl0 111 [.int .i64 v, .rp [.int .i64 c0] 0] (.int .i64 r) := by
 unfold layout_numberOf_6_1 at h
 replace h := bnd0 h
 refine spec_of (by kernel_rfl) Try.func111 rfl rfl ?_
 intro w0 A
 refine T_seq (T_reg ?_)
 refine R_q _ rfl (v_assign (ov rfl)) ?_
 refine R_nil ?_
 refine T_seq (T_reg ?_)
 refine R_q _ rfl (v_move (ov rfl)) ?_
 refine R_q _ rfl (v_loadS_r (ov rfl) tS3 rfl) ?_
 refine R_q _ rfl (v_mul (ov rfl) (ov rfl) rfl) ?_
 refine R_q _ rfl (v_sub (ov rfl) (ov rfl) rfl) ?_
 refine R_q _ rfl (v_and_ (ov rfl) (ov rfl)) ?_
 refine R_q _ rfl (v_assign (ov rfl)) ?_
 refine R_nil ?_
 obtain rfl := rt (v := (band .i64 v (i64 ((i64 (2 * c0)) - 1)))) h
 refine T_ret (retq ?_ (.one (.tmp rfl (Dat.view (.b rfl)))))
 rfl

theorem ok_layout_numberOf_6_2 {raw : Int} {c0 : Int} {r : Int × Bool} (h : layout_numberOf_6_2 raw c0 = some r) :
  CSpec Try.prog gl0 112 [.int .i64 raw, .rp [.int .i64 c0] 0] (.tuple [.int .i64 r.1, .bool r.2]) := by
 unfold layout_numberOf_6_2 at h
 replace h := bnd0 h
 refine spec_of (by kernel_rfl) Try.func112 rfl rfl ?_
 intro w0 A
 refine T_seq (T_reg ?_)
 refine R_q _ rfl (v_assign (ov rfl)) ?_
 refine R_q _ rfl (v_assign (ov rfl)) ?_
 refine R_nil ?_
 refine T_seq ?_
 refine T_keep (kc 0 rfl <| kc 1 rfl <| kn) rfl ?_
 refine T_seq (T_reg ?_)
 refine R_q _ rfl (v_move (ov rfl)) ?_
 refine R_q _ rfl (v_loadS_r (ov rfl) tS3 rfl) ?_
 refine R_q _ rfl (v_geq (ov rfl) (ov rfl)) ?_
 refine R_nil ?_
 refine T_keep (kc 0 rfl <| kc 1 rfl <| kc 7 rfl <| kn) rfl ?_
 refine T_if h rfl (fun b7 h => ?_) (fun b7 h => ?_)
 ·
  refine T_keep (kc 0 rfl <| kc 1 rfl <| kn) rfl ?_
  refine T_reg ?_
  refine R_q _ rfl (v_move (ov rfl)) ?_
  refine R_q _ rfl (v_loadS_r (ov rfl) tS3 rfl) ?_
  refine R_q _ rfl (v_mul (ov rfl) (ov rfl) rfl) ?_
  refine R_q _ rfl (v_sub (ov rfl) (ov rfl) rfl) ?_
  refine R_q _ rfl (v_assign (ov rfl)) ?_
  refine R_nil ?_
  refine T_keep (kc 0 rfl <| kn) rfl ?_
  refine T_seq (T_reg ?_)
  refine R_q _ rfl (v_move (ov rfl)) ?_
  refine R_q _ rfl (v_assign (ov rfl)) ?_
  refine R_q _ rfl (v_assign (ov rfl)) ?_
  refine R_nil ?_
  obtain rfl := rt (v := ((i64 (raw - (i64 (2 * c0)))), true)) h
  refine T_ret (retq ?_ (.two (.tmp rfl (Dat.view (.b rfl))) (.tmp rfl (Dat.view (.b rfl)))))
  rfl
 ·
  refine T_skip ?_
  refine T_keep (kc 0 rfl <| kn) rfl ?_
  refine T_seq (T_reg ?_)
  refine R_q _ rfl (v_move (ov rfl)) ?_
  refine R_q _ rfl (v_assign (ov rfl)) ?_
  refine R_q _ rfl (v_assign (ov rfl)) ?_
  refine R_nil ?_
  obtain rfl := rt (v := (raw, true)) h
  refine T_ret (retq ?_ (.two (.tmp rfl (Dat.view (.b rfl))) (.tmp rfl (Dat.view (.b rfl)))))
  rfl

theorem ok_layout_numberOf_6 {c0 : Int} {r : layout_number} (h : layout_numberOf_6 c0 = some r) :
  CSpec Try.prog gl0 110 [.rp [.int .i64 c0] 0] (.agg [.int .i64 r.low, .int .i64 r.high, .fn r.encode.f r.encode.c, .fn r.decode.f r.decode.c]) := by
 unfold layout_numberOf_6 at h
 replace h := bnd0 h
 refine spec_of (by kernel_rfl) Try.func110 rfl rfl ?_
 intro w0 A
 refine T_seq (T_reg ?_)
 refine R_w _ _ rfl (w_alloc (row := [_, _, _, _]) 0 rfl tZ102 rfl tZ_102) ?_
 refine R_nil ?_
 refine T_seq (T_reg ?_)
 refine R_q _ rfl (v_loadS_r (ov rfl) tS3 rfl) ?_
 refine R_q _ rfl (v_neg (ov rfl) rfl) ?_
 refine R_q _ rfl (v_loadS_r (ov rfl) tS3 rfl) ?_
 refine R_q _ rfl (v_sub (ov rfl) (ov rfl) rfl) ?_
 refine R_q _ rfl (v_makeFunc (.cons (ov rfl) <| .nil)) ?_
 refine R_q _ rfl (v_makeFunc (.cons (ov rfl) <| .nil)) ?_
 refine R_q _ rfl (v_build (ys := [_, _, _, _]) tPL102 tHA102 tZ102 (.cons (cvs (ov rfl) (cell1_b rfl)) <| .cons (cvs (ov rfl) (cell1_b rfl)) <| .cons (cvs (ov rfl) (cell1_b rfl)) <| .cons (cvs (ov rfl) (cell1_b rfl)) <| .nil) rfl) ?_
 refine R_w _ _ rfl (w_store (ov rfl) (ov rfl) (cells_agg tA102 rfl) rfl rfl rfl (Nat.le_of_ble_eq_true rfl) (cell1_all rfl) rfl) ?_
 refine R_nil ?_
 obtain rfl := rt (v := (layout_number.mk (i64 (-c0)) (i64 (c0 - 1)) (Fv.mk (fun z0 => layout_numberOf_6_1 z0 c0) 111 [.rp [.int .i64 c0] 0]) (Fv.mk (fun z0 => layout_numberOf_6_2 z0 c0) 112 [.rp [.int .i64 c0] 0]))) h
 refine T_ret (retq ?_ (.one (.agg rfl rfl rfl rfl tA102 rfl rfl (.cons (Dat.view (.b rfl)) <| .cons (Dat.view (.b rfl)) <| .cons (Dat.view (.fnC (.cons (.b rfl) <| .nil))) <| .cons (Dat.view (.fnC (.cons (.b rfl) <| .nil))) <| .nil))))
 rfl

theorem fok_layout_numberOf_6 {c0 : Int} {r : layout_number} (h : layout_numberOf_6 c0 = some r) : FOK99 r.encode ∧ FOK100 r.decode := by
 have key : AllS (fun r => FOK99 r.encode ∧ FOK100 r.decode) (layout_numberOf_6 c0) := by
  unfold layout_numberOf_6
  repeat' (first | exact as_none | with_reducible refine as_ite ?_ ?_ | with_reducible refine as_bind fun _ _ => ?_ | with_reducible refine as_t1 ?_)
  all_goals first | exact as_some ⟨⟨rfl, fun z0 _ hz => ok_layout_numberOf_6_1 hz⟩, ⟨rfl, fun z0 _ hz => ok_layout_numberOf_6_2 hz⟩⟩
 exact key r h

theorem ok_layout_numberOf_7_1 {v : Int} {c0 : Int} {r : Int} (h : layout_numberOf_7_1 v c0 = some r) :
  CSpec Try.prog gl0 114 [.int .i64 v, .rp [.int .i64 c0] 0] (.int .i64 r) := by
 unfold layout_numberOf_7_1 at h
 replace h := bnd0 h
 refine spec_of (by kernel_rfl) Try.func114 rfl rfl ?_
 intro w0 A
 refine T_seq (T_reg ?_)
 refine R_q _ rfl (v_assign (ov rfl)) ?_
 refine R_nil ?_
 refine T_seq ?_
 refine T_keep (kc 0 rfl <| kc 1 rfl <| kn) rfl ?_
 refine T_seq (T_reg ?_)
 refine R_q _ rfl (v_move (ov rfl)) ?_
 refine R_q _ rfl (v_lss (ov rfl) (ov rfl)) ?_
 refine R_nil ?_
 refine T_keep (kc 0 rfl <| kc 1 rfl <| kc 5 rfl <| kn) rfl ?_
 refine T_if h rfl (fun b5 h => ?_) (fun b5 h => ?_)
 ·
  refine T_keep (kc 0 rfl <| kc 1 rfl <| kn) rfl ?_
  refine T_seq (T_reg ?_)
  refine R_q _ rfl (v_loadS_r (ov rfl) tS3 rfl) ?_
  refine R_q _ rfl (v_move (ov rfl)) ?_
  refine R_q _ rfl (v_sub (ov rfl) (ov rfl) rfl) ?_
  refine R_q _ rfl (v_assign (ov rfl)) ?_
  refine R_nil ?_
  obtain rfl := rt (v := (i64 (c0 - v))) h
  refine T_ret (retq ?_ (.one (.tmp rfl (Dat.view (.b rfl)))))
  rfl
 ·
  refine T_skip ?_
  refine T_keep (kc 0 rfl <| kn) rfl ?_
  refine T_seq (T_reg ?_)
  refine R_q _ rfl (v_move (ov rfl)) ?_
  refine R_q _ rfl (v_assign (ov rfl)) ?_
  refine R_nil ?_
  obtain rfl := rt (v := v) h
  refine T_ret (retq ?_ (.one (.tmp rfl (Dat.view (.b rfl)))))
  rfl

theorem ok_layout_numberOf_7_2 {raw : Int} {c0 : Int} {r : Int × Bool} (h : layout_numberOf_7_2 raw c0 = some r) :
  CSpec Try.prog gl0 115 [.int .i64 raw, .rp [.int .i64 c0] 0] (.tuple [.int .i64 r.1, .bool r.2]) := by
 unfold layout_numberOf_7_2 at h
 replace h := bnd0 h
 refine spec_of (by kernel_rfl) Try.func115 rfl rfl ?_
 intro w0 A
 refine T_seq (T_reg ?_)
 refine R_q _ rfl (v_assign (ov rfl)) ?_
 refine R_q _ rfl (v_assign (ov rfl)) ?_
 refine R_nil ?_
 refine T_seq ?_
 refine T_keep (kc 0 rfl <| kc 1 rfl <| kn) rfl ?_
 refine T_seq (T_reg ?_)
 refine R_q _ rfl (v_move (ov rfl)) ?_
 refine R_q _ rfl (v_loadS_r (ov rfl) tS3 rfl) ?_
 refine R_q _ rfl (v_geq (ov rfl) (ov rfl)) ?_
 refine R_nil ?_
 refine T_keep (kc 0 rfl <| kc 1 rfl <| kc 7 rfl <| kn) rfl ?_
 refine T_if h rfl (fun b7 h => ?_) (fun b7 h => ?_)
 ·
  refine T_keep (kc 0 rfl <| kc 1 rfl <| kn) rfl ?_
  refine T_seq (T_draw (cw := md0) (by kernel_rfl) ?_)
  refine D_q0 0 _ rfl (by kernel_rfl) rfl rfl (v_loadS_r (ov rfl) tS3 rfl) ?_
  refine D_q0 1 _ rfl (by kernel_rfl) rfl rfl (v_move (ov rfl)) ?_
  refine D_q0 2 _ rfl (by kernel_rfl) rfl rfl (v_sub (ov rfl) (ov rfl) rfl) ?_
  refine D_q0 3 _ rfl (by kernel_rfl) rfl rfl (v_move (ov rfl)) ?_
  refine D_q0 4 _ rfl (by kernel_rfl) rfl rfl (v_loadS_r (ov rfl) tS3 rfl) ?_
  refine D_q0 5 _ rfl (by kernel_rfl) rfl rfl (v_gtr (ov rfl) (ov rfl)) ?_
  refine D_q0 6 _ rfl (by kernel_rfl) rfl rfl (v_assign (ov rfl)) ?_
  refine D_q0 7 _ rfl (by kernel_rfl) rfl rfl (v_assign (ov rfl)) ?_
  refine D_done (by kernel_rfl) ?_
  obtain rfl := rt (v := ((i64 (c0 - raw)), (decide (c0 < raw)))) h
  refine T_ret (retq ?_ (.two (.tmp rfl (Dat.view (.b rfl))) (.tmp rfl (Dat.view (.b rfl)))))
  rfl
 ·
  refine T_skip ?_
  refine T_keep (kc 0 rfl <| kn) rfl ?_
  refine T_seq (T_reg ?_)
  refine R_q _ rfl (v_move (ov rfl)) ?_
  refine R_q _ rfl (v_assign (ov rfl)) ?_
  refine R_q _ rfl (v_assign (ov rfl)) ?_
  refine R_nil ?_
  obtain rfl := rt (v := (raw, true)) h
  refine T_ret (retq ?_ (.two (.tmp rfl (Dat.view (.b rfl))) (.tmp rfl (Dat.view (.b rfl)))))
  rfl

theorem ok_layout_numberOf_7 {c0 : Int} {r : layout_number} (h : layout_numberOf_7 c0 = some r) :
  CSpec Try.prog gl0 113 [.rp [.int .i64 c0] 0] (.agg [.int .i64 r.low, .int .i64 r.high, .fn r.encode.f r.encode.c, .fn r.decode.f r.decode.c]) := by
 unfold layout_numberOf_7 at h
 replace h := bnd0 h
 refine spec_of (by kernel_rfl) Try.func113 rfl rfl ?_
 intro w0 A
 refine T_seq (T_reg ?_)
 refine R_w _ _ rfl (w_alloc (row := [_, _, _, _]) 0 rfl tZ102 rfl tZ_102) ?_
 refine R_nil ?_
 refine T_seq (T_reg ?_)
 refine R_q _ rfl (v_loadS_r (ov rfl) tS3 rfl) ?_
 refine R_q _ rfl (v_sub (ov rfl) (ov rfl) rfl) ?_
 refine R_q _ rfl (v_loadS_r (ov rfl) tS3 rfl) ?_
 refine R_q _ rfl (v_sub (ov rfl) (ov rfl) rfl) ?_
 refine R_q _ rfl (v_makeFunc (.cons (ov rfl) <| .nil)) ?_
 refine R_q _ rfl (v_makeFunc (.cons (ov rfl) <| .nil)) ?_
 refine R_q _ rfl (v_build (ys := [_, _, _, _]) tPL102 tHA102 tZ102 (.cons (cvs (ov rfl) (cell1_b rfl)) <| .cons (cvs (ov rfl) (cell1_b rfl)) <| .cons (cvs (ov rfl) (cell1_b rfl)) <| .cons (cvs (ov rfl) (cell1_b rfl)) <| .nil) rfl) ?_
 refine R_w _ _ rfl (w_store (ov rfl) (ov rfl) (cells_agg tA102 rfl) rfl rfl rfl (Nat.le_of_ble_eq_true rfl) (cell1_all rfl) rfl) ?_
 refine R_nil ?_
 obtain rfl := rt (v := (layout_number.mk (i64 (1 - c0)) (i64 (c0 - 1)) (Fv.mk (fun z0 => layout_numberOf_7_1 z0 c0) 114 [.rp [.int .i64 c0] 0]) (Fv.mk (fun z0 => layout_numberOf_7_2 z0 c0) 115 [.rp [.int .i64 c0] 0]))) h
 refine T_ret (retq ?_ (.one (.agg rfl rfl rfl rfl tA102 rfl rfl (.cons (Dat.view (.b rfl)) <| .cons (Dat.view (.b rfl)) <| .cons (Dat.view (.fnC (.cons (.b rfl) <| .nil))) <| .cons (Dat.view (.fnC (.cons (.b rfl) <| .nil))) <| .nil))))
 rfl

theorem fok_layout_numberOf_7 {c0 : Int} {r : layout_number} (h : layout_numberOf_7 c0 = some r) : FOK99 r.encode ∧ FOK100 r.decode := by
 have key : AllS (fun r => FOK99 r.encode ∧ FOK100 r.decode) (layout_numberOf_7 c0) := by
  unfold layout_numberOf_7
  repeat' (first | exact as_none | with_reducible refine as_ite ?_ ?_ | with_reducible refine as_bind fun _ _ => ?_ | with_reducible refine as_t1 ?_)
  all_goals first | exact as_some ⟨⟨rfl, fun z0 _ hz => ok_layout_numberOf_7_1 hz⟩, ⟨rfl, fun z0 _ hz => ok_layout_numberOf_7_2 hz⟩⟩
 exact key r h

theorem ok_layout_numberOf_8_1 {v : Int} {r : Int} (h : layout_numberOf_8_1 v = some r) :
  CSpec Try.prog gl0 117 [.int .i64 v] (.int .i64 r) := by
 unfold layout_numberOf_8_1 at h
 replace h := bnd0 h
 refine spec_of (by kernel_rfl) Try.func117 rfl rfl ?_
 intro w0 A
 refine T_seq (T_reg ?_)
 refine R_q _ rfl (v_assign (ov rfl)) ?_
 refine R_nil ?_
 refine T_keep (kc 0 rfl <| kn) rfl ?_
 refine T_seq (T_reg ?_)
 refine R_q _ rfl (v_assign (ov rfl)) ?_
 refine R_nil ?_
 refine T_joinG id (t1 fun raw => ⟨[(3, .int .i64 raw)], []⟩) h (fun h => ?_) (fun j h => ?_)
 ·
  refine T_seq (T_reg ?_)
  refine R_q _ rfl (v_assign (ov rfl)) ?_
  refine R_nil ?_
  refine T_block ?_
  obtain ⟨r1, hl1, ho1⟩ := bndL h
  refine T_loopG _ (t3 fun v2 raw2 shift => ⟨[(0, .int .i64 v2), (3, .int .i64 raw2), (4, .int .i64 shift)], []⟩) _ hl1 (Ent.sel [] (sd 0 rfl rfl <| sd 3 rfl rfl <| sd 4 rfl rfl <| sn) (.nil) rfl rfl) (fun n1 s1 h => ?_)
  obtain ⟨v2, raw2, shift⟩ := s1
  replace h := t3i h
  refine t3T ?_
  unfold layout_numberOf_8_1_L1 at h
  refine T_seq ?_
  refine T_seq (T_reg ?_)
  refine R_q _ rfl (v_move (ov rfl)) ?_
  refine R_q _ rfl (v_gtr (ov rfl) (ov rfl)) ?_
  refine R_nil ?_
  refine T_keep (kc 0 rfl <| kc 3 rfl <| kc 4 rfl <| kc 6 rfl <| kn) rfl ?_
  refine T_if h rfl (fun b6 h => ?_) (fun b6 h => ?_)
  ·
   refine T_skip ?_
   refine T_seq ?_
   refine T_block ?_
   refine T_keep (kc 0 rfl <| kc 3 rfl <| kc 4 rfl <| kn) rfl ?_
   refine T_seq (T_reg ?_)
   refine R_q _ rfl (v_move (ov rfl)) ?_
   refine R_q _ rfl (v_move (ov rfl)) ?_
   obtain ⟨q, h_q, h⟩ := bnd h
   refine R_q _ rfl (v_remG (ov rfl) (ov rfl) h_q) ?_
   refine R_q _ rfl (v_move (ov rfl)) ?_
   obtain ⟨q2, h_q2, h⟩ := bnd h
   refine R_q _ rfl (v_shlG (ov rfl) (ov rfl) h_q2) ?_
   refine R_q _ rfl (v_or_ (ov rfl) (ov rfl)) ?_
   refine R_q _ rfl (v_assign (ov rfl)) ?_
   refine R_nil ?_
   refine T_keep (kc 0 rfl <| kc 3 rfl <| kc 4 rfl <| kn) rfl ?_
   refine T_reg ?_
   refine R_q _ rfl (v_move (ov rfl)) ?_
   obtain ⟨q3, h_q3, h⟩ := bnd h
   refine R_q _ rfl (v_quoG (ov rfl) (ov rfl) h_q3) ?_
   refine R_q _ rfl (v_assign (ov rfl)) ?_
   refine R_nil ?_
   refine T_keep (kc 0 rfl <| kc 3 rfl <| kc 4 rfl <| kn) rfl ?_
   refine T_reg ?_
   refine R_q _ rfl (v_move (ov rfl)) ?_
   refine R_q _ rfl (v_add (ov rfl) (ov rfl) rfl) ?_
   refine R_q _ rfl (v_assign (ov rfl)) ?_
   refine R_nil ?_
   exact ⟨(q3, (bor .i64 raw2 q2), (i64 (shift + 4))), h, Ent.sel [] (sd 0 rfl rfl <| sd 3 rfl rfl <| sd 4 rfl rfl <| sn) (.nil) rfl rfl⟩
  ·
   refine T_exit ?_
   rw [lx h] at ho1
   replace h := ho1
   exact ⟨raw2, h, Ent.sel [] (sd 3 rfl rfl <| sn) (.nil) rfl rfl⟩
 ·
  obtain ⟨raw, rfl⟩ : ∃ x, x = j := ⟨_, rfl⟩
  replace h := t1i h
  refine t1T ?_
  refine T_seq (T_reg ?_)
  refine R_q _ rfl (v_move (ov rfl)) ?_
  refine R_q _ rfl (v_assign (ov rfl)) ?_
  refine R_nil ?_
  obtain rfl := rt (v := raw) h
  refine T_ret (retq ?_ (.one (.tmp rfl (Dat.view (.b rfl)))))
  rfl

theorem ok_layout_decimal {raw : Int} {r : Int × Bool} (h : layout_decimal raw = some r) :
  CSpec Try.prog gl0 118 [.int .i64 raw] (.tuple [.int .i64 r.1, .bool r.2]) := by
 unfold layout_decimal at h
 replace h := bnd0 h
 refine spec_of (by kernel_rfl) Try.func118 rfl rfl ?_
 intro w0 A
 refine T_seq (T_reg ?_)
 refine R_q _ rfl (v_assign (ov rfl)) ?_
 refine R_q _ rfl (v_assign (ov rfl)) ?_
 refine R_nil ?_
 refine T_keep (kc 0 rfl <| kn) rfl ?_
 refine T_seq (T_reg ?_)
 refine R_q _ rfl (v_assign (ov rfl)) ?_
 refine R_q _ rfl (v_assign (ov rfl)) ?_
 refine R_nil ?_
 refine T_joinG id (t2 fun v ok => ⟨[(4, .int .i64 v), (5, .bool ok)], []⟩) h (fun h => ?_) (fun j h => ?_)
 ·
  refine T_seq (T_reg ?_)
  refine R_q _ rfl (v_assign (ov rfl)) ?_
  refine R_nil ?_
  refine T_block ?_
  obtain ⟨r1, hl1, ho1⟩ := bndL h
  refine T_loopG _ (t3 fun v2 ok2 shift => ⟨[(0, .int .i64 raw), (4, .int .i64 v2), (5, .bool ok2), (6, .int .i64 shift)], []⟩) _ hl1 (Ent.sel [] (sd 0 rfl rfl <| sd 4 rfl rfl <| sd 5 rfl rfl <| sd 6 rfl rfl <| sn) (.nil) rfl rfl) (fun n1 s1 h => ?_)
  obtain ⟨v2, ok2, shift⟩ := s1
  replace h := t3i h
  refine t3T ?_
  unfold layout_decimal_L1 at h
  refine T_seq ?_
  refine T_seq (T_reg ?_)
  refine R_q _ rfl (v_move (ov rfl)) ?_
  refine R_q _ rfl (v_geq (ov rfl) (ov rfl)) ?_
  refine R_nil ?_
  refine T_keep (kc 0 rfl <| kc 4 rfl <| kc 5 rfl <| kc 6 rfl <| kc 9 rfl <| kn) rfl ?_
  refine T_if h rfl (fun b9 h => ?_) (fun b9 h => ?_)
  ·
   refine T_skip ?_
   refine T_seq ?_
   refine T_block ?_
   refine T_keep (kc 0 rfl <| kc 4 rfl <| kc 5 rfl <| kc 6 rfl <| kn) rfl ?_
   refine T_seq (T_reg ?_)
   refine R_q _ rfl (v_move (ov rfl)) ?_
   refine R_q _ rfl (v_move (ov rfl)) ?_
   obtain ⟨q, h_q, h⟩ := bnd h
   refine R_q _ rfl (v_shrG (ov rfl) (ov rfl) h_q) ?_
   refine R_q _ rfl (v_and_ (ov rfl) (ov rfl)) ?_
   refine R_q _ rfl (v_assign (ov rfl)) ?_
   refine R_nil ?_
   refine T_keep (kc 0 rfl <| kc 4 rfl <| kc 5 rfl <| kc 6 rfl <| kc 7 rfl <| kn) rfl ?_
   refine T_reg ?_
   refine R_q _ rfl (v_move (ov rfl)) ?_
   refine R_q _ rfl (v_mul (ov rfl) (ov rfl) rfl) ?_
   refine R_q _ rfl (v_move (ov rfl)) ?_
   refine R_q _ rfl (v_add (ov rfl) (ov rfl) rfl) ?_
   refine R_q _ rfl (v_move (ov rfl)) ?_
   refine R_q _ rfl (v_move (ov rfl)) ?_
   refine R_q _ rfl (.guarded (ok2 == true) rfl rfl rfl rfl fun h => v_move (ov rfl)) ?_
   refine R_q _ rfl (.guarded (ok2 == true) rfl rfl rfl rfl fun h => v_lss (ow rfl h) (ov rfl)) ?_
   refine R_q _ rfl (v_and (ov rfl) (fun hp => ow rfl (gT hp))) ?_
   refine R_q _ rfl (v_assign (ov rfl)) ?_
   refine R_q _ rfl (v_assign (ov rfl)) ?_
   refine R_nil ?_
   refine T_keep (kc 0 rfl <| kc 4 rfl <| kc 5 rfl <| kc 6 rfl <| kn) rfl ?_
   refine T_reg ?_
   refine R_q _ rfl (v_move (ov rfl)) ?_
   refine R_q _ rfl (v_sub (ov rfl) (ov rfl) rfl) ?_
   refine R_q _ rfl (v_assign (ov rfl)) ?_
   refine R_nil ?_
   exact ⟨((i64 ((i64 (v2 * 10)) + (band .i64 q 15))), (ok2 && (decide ((band .i64 q 15) < 10))), (i64 (shift - 4))), h, Ent.sel [] (sd 0 rfl rfl <| sd 4 rfl rfl <| sd 5 rfl rfl <| sd 6 rfl rfl <| sn) (.nil) rfl rfl⟩
  ·
   refine T_exit ?_
   rw [lx h] at ho1
   replace h := ho1
   exact ⟨(v2, ok2), h, Ent.sel [] (sd 4 rfl rfl <| sd 5 rfl rfl <| sn) (.nil) rfl rfl⟩
 ·
  obtain ⟨v, ok⟩ := j
  replace h := t2i h
  refine t2T ?_
  refine T_seq (T_reg ?_)
  refine R_q _ rfl (v_move (ov rfl)) ?_
  refine R_q _ rfl (v_move (ov rfl)) ?_
  refine R_q _ rfl (v_assign (ov rfl)) ?_
  refine R_q _ rfl (v_assign (ov rfl)) ?_
  refine R_nil ?_
  obtain rfl := rt (v := (v, ok)) h
  refine T_ret (retq ?_ (.two (.tmp rfl (Dat.view (.b rfl))) (.tmp rfl (Dat.view (.b rfl)))))
  rfl

theorem ok_layout_numberOf_8 {c0 : Int} {r : layout_number} (h : layout_numberOf_8 c0 = some r) :
  CSpec Try.prog gl0 116 [.rp [.int .i64 c0] 0] (.agg [.int .i64 r.low, .int .i64 r.high, .fn r.encode.f r.encode.c, .fn r.decode.f r.decode.c]) := by
 unfold layout_numberOf_8 at h
 replace h := bnd0 h
 refine spec_of (by kernel_rfl) Try.func116 rfl rfl ?_
 intro w0 A
 refine T_seq (T_reg ?_)
 refine R_w _ _ rfl (w_alloc (row := [_, _, _, _]) 0 rfl tZ102 rfl tZ_102) ?_
 refine R_nil ?_
 refine T_seq (T_reg ?_)
 refine R_q _ rfl (v_assign (ov rfl)) ?_
 refine R_nil ?_
 refine T_joinG id (t1 fun high => ⟨[(1, .ptr 0 1 0 0), (2, .int .i64 high)], [some ⟨102, [[.int .i64 0, .int .i64 0, .lit .nilFunc, .lit .nilFunc]]⟩]⟩) h (fun h => ?_) (fun j h => ?_)
 ·
  refine T_seq (T_reg ?_)
  refine R_q _ rfl (v_loadS_r (ov rfl) tS3 rfl) ?_
  obtain ⟨q, h_q, h⟩ := bnd h
  refine R_q _ rfl (v_quoG (ov rfl) (ov rfl) h_q) ?_
  refine R_q _ rfl (v_move (ov rfl)) ?_
  refine R_nil ?_
  refine T_block ?_
  obtain ⟨r1, hl1, ho1⟩ := bndL h
  refine T_loopG _ (t2 fun high2 i => ⟨[(1, .ptr 0 1 0 0), (2, .int .i64 high2), (4, .int .i64 q), (5, .int .i64 i)], [some ⟨102, [[.int .i64 0, .int .i64 0, .lit .nilFunc, .lit .nilFunc]]⟩]⟩) _ hl1 (Ent.sel [some 0] (sr 1 rfl (.ptr _ _ _ rfl) <| sd 2 rfl rfl <| sd 4 rfl rfl <| sd 5 rfl rfl <| sn) (.cons rfl (ro1 (by exact tZ_102.symm) (rld rfl)) <| .nil) rfl rfl) (fun n1 s1 h => ?_)
  obtain ⟨high2, i⟩ := s1
  replace h := t2i h
  refine t2T ?_
  unfold layout_numberOf_8_L1 at h
  refine T_seq (T_reg ?_)
  refine R_q _ rfl (v_lss (ov rfl) (ov rfl)) ?_
  refine R_nil ?_
  refine T_seq ?_
  refine T_if h rfl (fun b6 h => ?_) (fun b6 h => ?_)
  ·
   refine T_skip ?_
   refine T_seq ?_
   refine T_block ?_
   refine T_keep (kc 1 rfl <| kc 2 rfl <| kc 4 rfl <| kc 5 rfl <| kn) rfl ?_
   refine T_reg ?_
   refine R_q _ rfl (v_move (ov rfl)) ?_
   refine R_q _ rfl (v_mul (ov rfl) (ov rfl) rfl) ?_
   refine R_q _ rfl (v_assign (ov rfl)) ?_
   refine R_nil ?_
   refine T_keep (kc 1 rfl <| kc 2 rfl <| kc 4 rfl <| kc 5 rfl <| kn) rfl ?_
   refine T_reg ?_
   refine R_q _ rfl (v_add (ov rfl) (ov rfl) rfl) ?_
   refine R_q _ rfl (v_move (ov rfl)) ?_
   refine R_nil ?_
   exact ⟨((i64 (high2 * 10)), (i64 (i + 1))), h, Ent.sel [some 0] (sr 1 rfl (.ptr _ _ _ rfl) <| sd 2 rfl rfl <| sd 4 rfl rfl <| sd 5 rfl rfl <| sn) (.cons rfl (ro1 (by exact tZ_102.symm) (rld rfl)) <| .nil) rfl rfl⟩
  ·
   refine T_exit ?_
   rw [lx h] at ho1
   replace h := ho1
   exact ⟨high2, h, Ent.sel [some 0] (sr 1 rfl (.ptr _ _ _ rfl) <| sd 2 rfl rfl <| sn) (.cons rfl (ro1 (by exact tZ_102.symm) (rld rfl)) <| .nil) rfl rfl⟩
 ·
  obtain ⟨high, rfl⟩ : ∃ x, x = j := ⟨_, rfl⟩
  replace h := t1i h
  refine t1T ?_
  refine T_seq (T_reg ?_)
  refine R_q _ rfl (v_move (ov rfl)) ?_
  refine R_q _ rfl (v_sub (ov rfl) (ov rfl) rfl) ?_
  refine R_q _ rfl (v_build (ys := [_, _, _, _]) tPL102 tHA102 tZ102 (.cons (cvs (ov rfl) (cell1_b rfl)) <| .cons (cvs (ov rfl) (cell1_b rfl)) <| .cons (cvs (ov rfl) (cell1_b rfl)) <| .cons (cvs (ov rfl) (cell1_b rfl)) <| .nil) rfl) ?_
  refine R_w _ _ rfl (w_store (ov rfl) (ov rfl) (cells_agg tA102 rfl) rfl rfl rfl (Nat.le_of_ble_eq_true rfl) (cell1_all rfl) rfl) ?_
  refine R_nil ?_
  obtain rfl := rt (v := (layout_number.mk 0 (i64 (high - 1)) (Fv.mk (fun z0 => layout_numberOf_8_1 z0) 117 []) (Fv.mk (fun z0 => layout_decimal z0) 118 []))) h
  refine T_ret (retq ?_ (.one (.agg rfl rfl rfl rfl tA102 rfl rfl (.cons (Dat.view (.b rfl)) <| .cons (Dat.view (.b rfl)) <| .cons (Dat.view (.fn)) <| .cons (Dat.view (.fn)) <| .nil))))
  rfl

theorem fok_layout_numberOf_8 {c0 : Int} {r : layout_number} (h : layout_numberOf_8 c0 = some r) : FOK99 r.encode ∧ FOK100 r.decode := by
 have key : AllS (fun r => FOK99 r.encode ∧ FOK100 r.decode) (layout_numberOf_8 c0) := by
  unfold layout_numberOf_8
  repeat' (first | exact as_none | with_reducible refine as_ite ?_ ?_ | with_reducible refine as_bind fun _ _ => ?_ | with_reducible refine as_t1 ?_)
  all_goals first | exact as_some ⟨⟨rfl, fun z0 _ hz => ok_layout_numberOf_8_1 hz⟩, ⟨rfl, fun z0 _ hz => ok_layout_decimal hz⟩⟩
 exact key r h

theorem ok_layout_numberOf {p : api_Param} {r : layout_number} (h : layout_numberOf p = some r) :
  CSpec Try.prog gl0 59 [.agg [.str p.Name, .int .i64 p.Kind, .sl 109 (List.map R109 p.Parts), .int .i64 p.First, .int .i64 p.Every, .int .i64 p.Times, .int .i64 p.Step, .sl 9 (List.map R9 p.Names)]] (.agg [.int .i64 r.low, .int .i64 r.high, .fn r.encode.f r.encode.c, .fn r.decode.f r.decode.c]) := by
 unfold layout_numberOf at h
 replace h := bnd0 h
 refine spec_of (by kernel_rfl) Try.func59 rfl rfl ?_
 intro w0 A
 refine T_seq (T_reg ?_)
 refine R_q _ rfl (v_boxD (cva (ov rfl)) rfl tZ_43 rfl) ?_
 refine R_w _ _ rfl (w_alloc (row := [_, _, _, _]) 0 rfl tZ102 rfl tZ_102) ?_
 refine R_nil ?_
 refine T_keep (kc 1 rfl <| kc 2 rfl <| kn) rfl ?_
 refine T_seq (T_reg ?_)
 refine R_q _ rfl (v_loadA_r (ov rfl) tA43 rfl rfl) ?_
 obtain ⟨y, h_y, h⟩ := bnd h
 refine R_q _ rfl (v_call (ok_layout_bitsOf h_y) (.cons (ov rfl) (.aggB rfl) <| .nil)) ?_
 refine R_w _ _ rfl (w_alloc (row := [_]) 1 rfl tZ3 rfl tZ_3) ?_
 refine R_w _ _ rfl (w_store (ov rfl) (ov rfl) (cells_scal tS3) rfl rfl rfl (Nat.le_of_ble_eq_true rfl) (cell1_all rfl) rfl) ?_
 refine R_nil ?_
 refine T_keep (kc 1 rfl <| kc 2 rfl <| kc 3 rfl <| kn) rfl ?_
 refine T_seq (T_reg ?_)
 refine R_q _ rfl (v_loadS (ov rfl) rfl rfl rfl tS3 rfl) ?_
 refine R_q _ rfl (v_sub (ov rfl) (ov rfl) rfl) ?_
 obtain ⟨q, h_q, h⟩ := bnd h
 refine R_q _ rfl (v_shlG (ov rfl) (ov rfl) h_q) ?_
 refine R_w _ _ rfl (w_alloc (row := [_]) 2 rfl tZ3 rfl tZ_3) ?_
 refine R_w _ _ rfl (w_store (ov rfl) (ov rfl) (cells_scal tS3) rfl rfl rfl (Nat.le_of_ble_eq_true rfl) (cell1_all rfl) rfl) ?_
 refine R_nil ?_
 refine T_keep (kc 1 rfl <| kc 2 rfl <| kc 3 rfl <| kc 4 rfl <| kn) rfl ?_
 refine T_seq (T_reg ?_)
 refine R_w _ _ rfl (w_alloc (row := [_]) 3 rfl tZ99 rfl tZ_99) ?_
 refine R_w _ _ rfl (w_store (ov rfl) (ov rfl) (cells_scal tS99) rfl rfl rfl (Nat.le_of_ble_eq_true rfl) (cell1_all rfl) rfl) ?_
 refine R_nil ?_
 refine T_seq (T_reg ?_)
 refine R_ent (Ent.sel [some 0, some 1, some 2, none] (sd 1 rfl rfl <| sr 2 rfl (.ptr (r' := 0) _ _ _ rfl) <| sr 3 rfl (.ptr (r' := 1) _ _ _ rfl) <| sr 4 rfl (.ptr (r' := 2) _ _ _ rfl) <| sr 5 rfl (.frp ⟨rfl, ⟨_, rfl⟩, rfl, rfl⟩) <| sn) (.cons rfl (ro1 (by exact tZ_102.symm) (rld rfl)) <| .cons rfl (ro1 (by exact tZ_3.symm) (rld rfl)) <| .cons rfl (ro1 (by exact tZ_3.symm) (rld rfl)) <| .row 99 <| .nil) rfl rfl) ?_
 refine R_q _ rfl (v_makeFunc (.cons (ov rfl) <| .nil)) ?_
 refine R_w _ _ rfl (w_alloc (row := [_]) 4 rfl tZ147 rfl tZ_147) ?_
 refine R_w _ _ rfl (w_store (ov rfl) (ov rfl) (cells_scal tS147) rfl rfl rfl (Nat.le_of_ble_eq_true rfl) (cell1_all rfl) rfl) ?_
 refine R_nil ?_
 refine T_keep (kc 1 rfl <| kc 2 rfl <| kc 3 rfl <| kc 4 rfl <| kc 6 rfl <| kn) rfl ?_
 refine T_seq (T_reg ?_)
 refine R_w _ _ rfl (w_makeMap 5 rfl tMp149) ?_
 refine R_ent (Ent.sel [some 0, some 1, some 2, some 3, none, some 5] (sd 1 rfl rfl <| sr 2 rfl (.ptr (r' := 0) _ _ _ rfl) <| sr 3 rfl (.ptr (r' := 1) _ _ _ rfl) <| sr 4 rfl (.ptr (r' := 2) _ _ _ rfl) <| sr 6 rfl (.frp ⟨rfl, ⟨_, rfl⟩, rfl, rfl⟩) <| sr 14 rfl (.mref (r' := 5) _ rfl) <| sn) (.cons rfl (ro1 (by exact tZ_102.symm) (rld rfl)) <| .cons rfl (ro1 (by exact tZ_3.symm) (rld rfl)) <| .cons rfl (ro1 (by exact tZ_3.symm) (rld rfl)) <| .cons rfl (roE) <| .row 147 <| .cons rfl (roMapD (fk := FK3) (m := ([] : List (Int × AV))) tZ_149 (fun _ => .dat rfl) rfl) <| .nil) rfl rfl) ?_
 refine R_ent (Ent.sel [some 0, some 1, none, some 3, some 4, some 5] (sd 1 rfl rfl <| sr 2 rfl (.ptr (r' := 0) _ _ _ rfl) <| sr 3 rfl (.ptr (r' := 1) _ _ _ rfl) <| sr 4 rfl (.frp ⟨rfl, ⟨_, rfl⟩, rfl, rfl⟩) <| sd 6 rfl rfl <| sr 14 rfl (.mref (r' := 5) _ rfl) <| sn) (.cons rfl (ro1 (by exact tZ_102.symm) (rld rfl)) <| .cons rfl (ro1 (by exact tZ_3.symm) (rld rfl)) <| .row 3 <| .cons rfl (roE) <| .cons rfl (roE) <| .cons rfl (roMapD (fk := FK3) (m := ([] : List (Int × AV))) tZ_149 (fun _ => .dat rfl) rfl) <| .nil) rfl rfl) ?_
 refine R_q _ rfl (v_makeFunc (.cons (ov rfl) <| .cons (ov rfl) <| .nil)) ?_
 refine R_w _ _ rfl (w_insert (m := ([] : List (Int × AV))) (fk := FK3) (fv := id) (k := 1) (v := .fn 107 [.rp [.fn 105 [.rp [.fn 104 []] 0]] 0, .rp [.int .i64 q] 0]) (m' := ([(1, .fn 107 [.rp [.fn 105 [.rp [.fn 104 []] 0]] 0, .rp [.int .i64 q] 0])] : List (Int × AV))) (ov rfl) (ov rfl) (ov rfl) tMp149 tKO3 rfl (fun _ => .b rfl) rfl) ?_
 refine R_q _ rfl (v_makeFunc (.cons (ov rfl) <| .nil)) ?_
 refine R_w _ _ rfl (w_insert (m := ([(1, .fn 107 [.rp [.fn 105 [.rp [.fn 104 []] 0]] 0, .rp [.int .i64 q] 0])] : List (Int × AV))) (fk := FK3) (fv := id) (k := 5) (v := .fn 108 [.rp [.fn 105 [.rp [.fn 104 []] 0]] 0]) (m' := ([(1, .fn 107 [.rp [.fn 105 [.rp [.fn 104 []] 0]] 0, .rp [.int .i64 q] 0]), (5, .fn 108 [.rp [.fn 105 [.rp [.fn 104 []] 0]] 0])] : List (Int × AV))) (ov rfl) (ov rfl) (ov rfl) tMp149 tKO3 rfl (fun _ => .b rfl) rfl) ?_
 refine R_q _ rfl (v_makeFunc (.cons (ov rfl) <| .cons (ov rfl) <| .nil)) ?_
 refine R_w _ _ rfl (w_insert (m := ([(1, .fn 107 [.rp [.fn 105 [.rp [.fn 104 []] 0]] 0, .rp [.int .i64 q] 0]), (5, .fn 108 [.rp [.fn 105 [.rp [.fn 104 []] 0]] 0])] : List (Int × AV))) (fk := FK3) (fv := id) (k := 6) (v := .fn 109 [.rp [.fn 105 [.rp [.fn 104 []] 0]] 0, .rp [.str p.Name, .int .i64 p.Kind, .sl 109 (List.map R109 p.Parts), .int .i64 p.First, .int .i64 p.Every, .int .i64 p.Times, .int .i64 p.Step, .sl 9 (List.map R9 p.Names)] 0]) (m' := ([(1, .fn 107 [.rp [.fn 105 [.rp [.fn 104 []] 0]] 0, .rp [.int .i64 q] 0]), (5, .fn 108 [.rp [.fn 105 [.rp [.fn 104 []] 0]] 0]), (6, .fn 109 [.rp [.fn 105 [.rp [.fn 104 []] 0]] 0, .rp [.str p.Name, .int .i64 p.Kind, .sl 109 (List.map R109 p.Parts), .int .i64 p.First, .int .i64 p.Every, .int .i64 p.Times, .int .i64 p.Step, .sl 9 (List.map R9 p.Names)] 0])] : List (Int × AV))) (ov rfl) (ov rfl) (ov rfl) tMp149 tKO3 rfl (fun _ => .b rfl) rfl) ?_
 refine R_q _ rfl (v_makeFunc (.cons (ov rfl) <| .nil)) ?_
 refine R_w _ _ rfl (w_insert (m := ([(1, .fn 107 [.rp [.fn 105 [.rp [.fn 104 []] 0]] 0, .rp [.int .i64 q] 0]), (5, .fn 108 [.rp [.fn 105 [.rp [.fn 104 []] 0]] 0]), (6, .fn 109 [.rp [.fn 105 [.rp [.fn 104 []] 0]] 0, .rp [.str p.Name, .int .i64 p.Kind, .sl 109 (List.map R109 p.Parts), .int .i64 p.First, .int .i64 p.Every, .int .i64 p.Times, .int .i64 p.Step, .sl 9 (List.map R9 p.Names)] 0])] : List (Int × AV))) (fk := FK3) (fv := id) (k := 2) (v := .fn 110 [.rp [.int .i64 q] 0]) (m' := ([(1, .fn 107 [.rp [.fn 105 [.rp [.fn 104 []] 0]] 0, .rp [.int .i64 q] 0]), (5, .fn 108 [.rp [.fn 105 [.rp [.fn 104 []] 0]] 0]), (6, .fn 109 [.rp [.fn 105 [.rp [.fn 104 []] 0]] 0, .rp [.str p.Name, .int .i64 p.Kind, .sl 109 (List.map R109 p.Parts), .int .i64 p.First, .int .i64 p.Every, .int .i64 p.Times, .int .i64 p.Step, .sl 9 (List.map R9 p.Names)] 0]), (2, .fn 110 [.rp [.int .i64 q] 0])] : List (Int × AV))) (ov rfl) (ov rfl) (ov rfl) tMp149 tKO3 rfl (fun _ => .b rfl) rfl) ?_
 refine R_q _ rfl (v_makeFunc (.cons (ov rfl) <| .nil)) ?_
 refine R_w _ _ rfl (w_insert (m := ([(1, .fn 107 [.rp [.fn 105 [.rp [.fn 104 []] 0]] 0, .rp [.int .i64 q] 0]), (5, .fn 108 [.rp [.fn 105 [.rp [.fn 104 []] 0]] 0]), (6, .fn 109 [.rp [.fn 105 [.rp [.fn 104 []] 0]] 0, .rp [.str p.Name, .int .i64 p.Kind, .sl 109 (List.map R109 p.Parts), .int .i64 p.First, .int .i64 p.Every, .int .i64 p.Times, .int .i64 p.Step, .sl 9 (List.map R9 p.Names)] 0]), (2, .fn 110 [.rp [.int .i64 q] 0])] : List (Int × AV))) (fk := FK3) (fv := id) (k := 3) (v := .fn 113 [.rp [.int .i64 q] 0]) (m' := ([(1, .fn 107 [.rp [.fn 105 [.rp [.fn 104 []] 0]] 0, .rp [.int .i64 q] 0]), (5, .fn 108 [.rp [.fn 105 [.rp [.fn 104 []] 0]] 0]), (6, .fn 109 [.rp [.fn 105 [.rp [.fn 104 []] 0]] 0, .rp [.str p.Name, .int .i64 p.Kind, .sl 109 (List.map R109 p.Parts), .int .i64 p.First, .int .i64 p.Every, .int .i64 p.Times, .int .i64 p.Step, .sl 9 (List.map R9 p.Names)] 0]), (2, .fn 110 [.rp [.int .i64 q] 0]), (3, .fn 113 [.rp [.int .i64 q] 0])] : List (Int × AV))) (ov rfl) (ov rfl) (ov rfl) tMp149 tKO3 rfl (fun _ => .b rfl) rfl) ?_
 refine R_ent (Ent.sel [some 0, none, some 2, some 3, some 4, some 5] (sd 1 rfl rfl <| sr 2 rfl (.ptr (r' := 0) _ _ _ rfl) <| sr 3 rfl (.frp ⟨rfl, ⟨_, rfl⟩, rfl, rfl⟩) <| sd 4 rfl rfl <| sd 6 rfl rfl <| sr 14 rfl (.mref (r' := 5) _ rfl) <| sr 15 rfl (rFn (rlc (.dat rfl) <| rlc (.dat rfl) <| rln)) <| sr 16 rfl (rFn (rlc (.dat rfl) <| rln)) <| sr 17 rfl (rFn (rlc (.dat rfl) <| rlc (.dat rfl) <| rln)) <| sr 18 rfl (rFn (rlc (.dat rfl) <| rln)) <| sr 19 rfl (rFn (rlc (.dat rfl) <| rln)) <| sn) (.cons rfl (ro1 (by exact tZ_102.symm) (rld rfl)) <| .row 3 <| .cons rfl (roE) <| .cons rfl (roE) <| .cons rfl (roE) <| .cons rfl (roMapD (fk := FK3) (m := ([(1, .fn 107 [.rp [.fn 105 [.rp [.fn 104 []] 0]] 0, .rp [.int .i64 q] 0]), (5, .fn 108 [.rp [.fn 105 [.rp [.fn 104 []] 0]] 0]), (6, .fn 109 [.rp [.fn 105 [.rp [.fn 104 []] 0]] 0, .rp [.str p.Name, .int .i64 p.Kind, .sl 109 (List.map R109 p.Parts), .int .i64 p.First, .int .i64 p.Every, .int .i64 p.Times, .int .i64 p.Step, .sl 9 (List.map R9 p.Names)] 0]), (2, .fn 110 [.rp [.int .i64 q] 0]), (3, .fn 113 [.rp [.int .i64 q] 0])] : List (Int × AV))) tZ_149 (fun _ => .dat rfl) rfl) <| .nil) rfl rfl) ?_
 refine R_q _ rfl (v_makeFunc (.cons (ov rfl) <| .nil)) ?_
 refine R_w _ _ rfl (w_insert (m := ([(1, .fn 107 [.rp [.fn 105 [.rp [.fn 104 []] 0]] 0, .rp [.int .i64 q] 0]), (5, .fn 108 [.rp [.fn 105 [.rp [.fn 104 []] 0]] 0]), (6, .fn 109 [.rp [.fn 105 [.rp [.fn 104 []] 0]] 0, .rp [.str p.Name, .int .i64 p.Kind, .sl 109 (List.map R109 p.Parts), .int .i64 p.First, .int .i64 p.Every, .int .i64 p.Times, .int .i64 p.Step, .sl 9 (List.map R9 p.Names)] 0]), (2, .fn 110 [.rp [.int .i64 q] 0]), (3, .fn 113 [.rp [.int .i64 q] 0])] : List (Int × AV))) (fk := FK3) (fv := id) (k := 4) (v := .fn 116 [.rp [.int .i64 y] 0]) (m' := ([(1, .fn 107 [.rp [.fn 105 [.rp [.fn 104 []] 0]] 0, .rp [.int .i64 q] 0]), (5, .fn 108 [.rp [.fn 105 [.rp [.fn 104 []] 0]] 0]), (6, .fn 109 [.rp [.fn 105 [.rp [.fn 104 []] 0]] 0, .rp [.str p.Name, .int .i64 p.Kind, .sl 109 (List.map R109 p.Parts), .int .i64 p.First, .int .i64 p.Every, .int .i64 p.Times, .int .i64 p.Step, .sl 9 (List.map R9 p.Names)] 0]), (2, .fn 110 [.rp [.int .i64 q] 0]), (3, .fn 113 [.rp [.int .i64 q] 0]), (4, .fn 116 [.rp [.int .i64 y] 0])] : List (Int × AV))) (ov rfl) (ov rfl) (ov rfl) tMp149 tKO3 rfl (fun _ => .b rfl) rfl) ?_
 refine R_q _ rfl (v_move (ov rfl)) ?_
 refine R_q _ rfl (v_assign (ov rfl)) ?_
 refine R_nil ?_
 refine T_keep (kc 1 rfl <| kc 2 rfl <| kc 7 rfl <| kn) rfl ?_
 refine T_seq (T_reg ?_)
 refine R_q _ rfl (v_move (ov rfl)) ?_
 refine R_q _ rfl (v_fieldR (ov rfl) tF43_1) ?_
 refine R_q _ rfl (v_loadS_r (ov rfl) tS3 rfl) ?_
 rcases ifR h with ⟨hk3_0, h⟩ | ⟨hk3_0, h⟩
 ·
  refine R_q _ rfl (v_lk1 (m := ([(1, .fn 107 [.rp [.fn 105 [.rp [.fn 104 []] 0]] 0, .rp [.int .i64 q] 0]), (5, .fn 108 [.rp [.fn 105 [.rp [.fn 104 []] 0]] 0]), (6, .fn 109 [.rp [.fn 105 [.rp [.fn 104 []] 0]] 0, .rp [.str p.Name, .int .i64 p.Kind, .sl 109 (List.map R109 p.Parts), .int .i64 p.First, .int .i64 p.Every, .int .i64 p.Times, .int .i64 p.Step, .sl 9 (List.map R9 p.Names)] 0]), (2, .fn 110 [.rp [.int .i64 q] 0]), (3, .fn 113 [.rp [.int .i64 q] 0]), (4, .fn 116 [.rp [.int .i64 y] 0])] : List (Int × AV))) (fk := FK3) (fv := id) (k := p.Kind) (z0 := .lit .nilFunc) (ov rfl) (ov rfl) tMp149 tKO3 rfl (fun _ => .b rfl) (zero_scal tZV148 rfl) (nsD rfl) (lkS (mgT hk3_0))) ?_
  obtain ⟨y2, h_y2, h⟩ := bnd h
  refine R_q _ rfl (v_callC (ov rfl) rfl (ok_layout_numberOf_3 h_y2) (.nil)) ?_
  refine R_w _ _ rfl (w_store (ov rfl) (ov rfl) (cells_agg tA102 rfl) rfl rfl rfl (Nat.le_of_ble_eq_true rfl) (cell1_all rfl) rfl) ?_
  refine R_nil ?_
  obtain rfl := rt (v := y2) h
  refine T_ret (retq ?_ (.one (.agg rfl rfl rfl rfl tA102 rfl rfl (.cons (Dat.view (.b rfl)) <| .cons (Dat.view (.b rfl)) <| .cons (Dat.view (Dat.fnC (.refl fun x hx => .b (List.all_eq_true.1 (((fok_layout_numberOf_3 h_y2).1)).1 x hx)))) <| .cons (Dat.view (Dat.fnC (.refl fun x hx => .b (List.all_eq_true.1 (((fok_layout_numberOf_3 h_y2).2)).1 x hx)))) <| .nil))))
  rfl
 ·
  rcases ifR h with ⟨hk3_1, h⟩ | ⟨hk3_1, h⟩
  ·
   refine R_q _ rfl (v_lk1 (m := ([(1, .fn 107 [.rp [.fn 105 [.rp [.fn 104 []] 0]] 0, .rp [.int .i64 q] 0]), (5, .fn 108 [.rp [.fn 105 [.rp [.fn 104 []] 0]] 0]), (6, .fn 109 [.rp [.fn 105 [.rp [.fn 104 []] 0]] 0, .rp [.str p.Name, .int .i64 p.Kind, .sl 109 (List.map R109 p.Parts), .int .i64 p.First, .int .i64 p.Every, .int .i64 p.Times, .int .i64 p.Step, .sl 9 (List.map R9 p.Names)] 0]), (2, .fn 110 [.rp [.int .i64 q] 0]), (3, .fn 113 [.rp [.int .i64 q] 0]), (4, .fn 116 [.rp [.int .i64 y] 0])] : List (Int × AV))) (fk := FK3) (fv := id) (k := p.Kind) (z0 := .lit .nilFunc) (ov rfl) (ov rfl) tMp149 tKO3 rfl (fun _ => .b rfl) (zero_scal tZV148 rfl) (nsD rfl) (lkS (mgF hk3_0 (mgT hk3_1)))) ?_
   obtain ⟨y3, h_y3, h⟩ := bnd h
   refine R_q _ rfl (v_callC (ov rfl) rfl (ok_layout_numberOf_4 h_y3) (.nil)) ?_
   refine R_w _ _ rfl (w_store (ov rfl) (ov rfl) (cells_agg tA102 rfl) rfl rfl rfl (Nat.le_of_ble_eq_true rfl) (cell1_all rfl) rfl) ?_
   refine R_nil ?_
   obtain rfl := rt (v := y3) h
   refine T_ret (retq ?_ (.one (.agg rfl rfl rfl rfl tA102 rfl rfl (.cons (Dat.view (.b rfl)) <| .cons (Dat.view (.b rfl)) <| .cons (Dat.view (Dat.fnC (.refl fun x hx => .b (List.all_eq_true.1 (((fok_layout_numberOf_4 h_y3).1)).1 x hx)))) <| .cons (Dat.view (Dat.fnC (.refl fun x hx => .b (List.all_eq_true.1 (((fok_layout_numberOf_4 h_y3).2)).1 x hx)))) <| .nil))))
   rfl
  ·
   rcases ifR h with ⟨hk3_2, h⟩ | ⟨hk3_2, h⟩
   ·
    refine R_q _ rfl (v_lk1 (m := ([(1, .fn 107 [.rp [.fn 105 [.rp [.fn 104 []] 0]] 0, .rp [.int .i64 q] 0]), (5, .fn 108 [.rp [.fn 105 [.rp [.fn 104 []] 0]] 0]), (6, .fn 109 [.rp [.fn 105 [.rp [.fn 104 []] 0]] 0, .rp [.str p.Name, .int .i64 p.Kind, .sl 109 (List.map R109 p.Parts), .int .i64 p.First, .int .i64 p.Every, .int .i64 p.Times, .int .i64 p.Step, .sl 9 (List.map R9 p.Names)] 0]), (2, .fn 110 [.rp [.int .i64 q] 0]), (3, .fn 113 [.rp [.int .i64 q] 0]), (4, .fn 116 [.rp [.int .i64 y] 0])] : List (Int × AV))) (fk := FK3) (fv := id) (k := p.Kind) (z0 := .lit .nilFunc) (ov rfl) (ov rfl) tMp149 tKO3 rfl (fun _ => .b rfl) (zero_scal tZV148 rfl) (nsD rfl) (lkS (mgF hk3_0 (mgF hk3_1 (mgT hk3_2))))) ?_
    obtain ⟨y4, h_y4, h⟩ := bnd h
    refine R_q _ rfl (v_callC (ov rfl) rfl (ok_layout_numberOf_5 h_y4) (.nil)) ?_
    refine R_w _ _ rfl (w_store (ov rfl) (ov rfl) (cells_agg tA102 rfl) rfl rfl rfl (Nat.le_of_ble_eq_true rfl) (cell1_all rfl) rfl) ?_
    refine R_nil ?_
    obtain rfl := rt (v := y4) h
    refine T_ret (retq ?_ (.one (.agg rfl rfl rfl rfl tA102 rfl rfl (.cons (Dat.view (.b rfl)) <| .cons (Dat.view (.b rfl)) <| .cons (Dat.view (Dat.fnC (.refl fun x hx => .b (List.all_eq_true.1 (((fok_layout_numberOf_5 h_y4).1)).1 x hx)))) <| .cons (Dat.view (Dat.fnC (.refl fun x hx => .b (List.all_eq_true.1 (((fok_layout_numberOf_5 h_y4).2)).1 x hx)))) <| .nil))))
    rfl
   ·
    rcases ifR h with ⟨hk3_3, h⟩ | ⟨hk3_3, h⟩
    ·
     refine R_q _ rfl (v_lk1 (m := ([(1, .fn 107 [.rp [.fn 105 [.rp [.fn 104 []] 0]] 0, .rp [.int .i64 q] 0]), (5, .fn 108 [.rp [.fn 105 [.rp [.fn 104 []] 0]] 0]), (6, .fn 109 [.rp [.fn 105 [.rp [.fn 104 []] 0]] 0, .rp [.str p.Name, .int .i64 p.Kind, .sl 109 (List.map R109 p.Parts), .int .i64 p.First, .int .i64 p.Every, .int .i64 p.Times, .int .i64 p.Step, .sl 9 (List.map R9 p.Names)] 0]), (2, .fn 110 [.rp [.int .i64 q] 0]), (3, .fn 113 [.rp [.int .i64 q] 0]), (4, .fn 116 [.rp [.int .i64 y] 0])] : List (Int × AV))) (fk := FK3) (fv := id) (k := p.Kind) (z0 := .lit .nilFunc) (ov rfl) (ov rfl) tMp149 tKO3 rfl (fun _ => .b rfl) (zero_scal tZV148 rfl) (nsD rfl) (lkS (mgF hk3_0 (mgF hk3_1 (mgF hk3_2 (mgT hk3_3)))))) ?_
     obtain ⟨y5, h_y5, h⟩ := bnd h
     refine R_q _ rfl (v_callC (ov rfl) rfl (ok_layout_numberOf_6 h_y5) (.nil)) ?_
     refine R_w _ _ rfl (w_store (ov rfl) (ov rfl) (cells_agg tA102 rfl) rfl rfl rfl (Nat.le_of_ble_eq_true rfl) (cell1_all rfl) rfl) ?_
     refine R_nil ?_
     obtain rfl := rt (v := y5) h
     refine T_ret (retq ?_ (.one (.agg rfl rfl rfl rfl tA102 rfl rfl (.cons (Dat.view (.b rfl)) <| .cons (Dat.view (.b rfl)) <| .cons (Dat.view (Dat.fnC (.refl fun x hx => .b (List.all_eq_true.1 (((fok_layout_numberOf_6 h_y5).1)).1 x hx)))) <| .cons (Dat.view (Dat.fnC (.refl fun x hx => .b (List.all_eq_true.1 (((fok_layout_numberOf_6 h_y5).2)).1 x hx)))) <| .nil))))
     rfl
    ·
     rcases ifR h with ⟨hk3_4, h⟩ | ⟨hk3_4, h⟩
     ·
      refine R_q _ rfl (v_lk1 (m := ([(1, .fn 107 [.rp [.fn 105 [.rp [.fn 104 []] 0]] 0, .rp [.int .i64 q] 0]), (5, .fn 108 [.rp [.fn 105 [.rp [.fn 104 []] 0]] 0]), (6, .fn 109 [.rp [.fn 105 [.rp [.fn 104 []] 0]] 0, .rp [.str p.Name, .int .i64 p.Kind, .sl 109 (List.map R109 p.Parts), .int .i64 p.First, .int .i64 p.Every, .int .i64 p.Times, .int .i64 p.Step, .sl 9 (List.map R9 p.Names)] 0]), (2, .fn 110 [.rp [.int .i64 q] 0]), (3, .fn 113 [.rp [.int .i64 q] 0]), (4, .fn 116 [.rp [.int .i64 y] 0])] : List (Int × AV))) (fk := FK3) (fv := id) (k := p.Kind) (z0 := .lit .nilFunc) (ov rfl) (ov rfl) tMp149 tKO3 rfl (fun _ => .b rfl) (zero_scal tZV148 rfl) (nsD rfl) (lkS (mgF hk3_0 (mgF hk3_1 (mgF hk3_2 (mgF hk3_3 (mgT hk3_4))))))) ?_
      obtain ⟨y6, h_y6, h⟩ := bnd h
      refine R_q _ rfl (v_callC (ov rfl) rfl (ok_layout_numberOf_7 h_y6) (.nil)) ?_
      refine R_w _ _ rfl (w_store (ov rfl) (ov rfl) (cells_agg tA102 rfl) rfl rfl rfl (Nat.le_of_ble_eq_true rfl) (cell1_all rfl) rfl) ?_
      refine R_nil ?_
      obtain rfl := rt (v := y6) h
      refine T_ret (retq ?_ (.one (.agg rfl rfl rfl rfl tA102 rfl rfl (.cons (Dat.view (.b rfl)) <| .cons (Dat.view (.b rfl)) <| .cons (Dat.view (Dat.fnC (.refl fun x hx => .b (List.all_eq_true.1 (((fok_layout_numberOf_7 h_y6).1)).1 x hx)))) <| .cons (Dat.view (Dat.fnC (.refl fun x hx => .b (List.all_eq_true.1 (((fok_layout_numberOf_7 h_y6).2)).1 x hx)))) <| .nil))))
      rfl
     ·
      rcases ifR h with ⟨hk3_5, h⟩ | ⟨hk3_5, h⟩
      ·
       refine R_q _ rfl (v_lk1 (m := ([(1, .fn 107 [.rp [.fn 105 [.rp [.fn 104 []] 0]] 0, .rp [.int .i64 q] 0]), (5, .fn 108 [.rp [.fn 105 [.rp [.fn 104 []] 0]] 0]), (6, .fn 109 [.rp [.fn 105 [.rp [.fn 104 []] 0]] 0, .rp [.str p.Name, .int .i64 p.Kind, .sl 109 (List.map R109 p.Parts), .int .i64 p.First, .int .i64 p.Every, .int .i64 p.Times, .int .i64 p.Step, .sl 9 (List.map R9 p.Names)] 0]), (2, .fn 110 [.rp [.int .i64 q] 0]), (3, .fn 113 [.rp [.int .i64 q] 0]), (4, .fn 116 [.rp [.int .i64 y] 0])] : List (Int × AV))) (fk := FK3) (fv := id) (k := p.Kind) (z0 := .lit .nilFunc) (ov rfl) (ov rfl) tMp149 tKO3 rfl (fun _ => .b rfl) (zero_scal tZV148 rfl) (nsD rfl) (lkS (mgF hk3_0 (mgF hk3_1 (mgF hk3_2 (mgF hk3_3 (mgF hk3_4 (mgT hk3_5)))))))) ?_
       obtain ⟨y7, h_y7, h⟩ := bnd h
       refine R_q _ rfl (v_callC (ov rfl) rfl (ok_layout_numberOf_8 h_y7) (.nil)) ?_
       refine R_w _ _ rfl (w_store (ov rfl) (ov rfl) (cells_agg tA102 rfl) rfl rfl rfl (Nat.le_of_ble_eq_true rfl) (cell1_all rfl) rfl) ?_
       refine R_nil ?_
       obtain rfl := rt (v := y7) h
       refine T_ret (retq ?_ (.one (.agg rfl rfl rfl rfl tA102 rfl rfl (.cons (Dat.view (.b rfl)) <| .cons (Dat.view (.b rfl)) <| .cons (Dat.view (Dat.fnC (.refl fun x hx => .b (List.all_eq_true.1 (((fok_layout_numberOf_8 h_y7).1)).1 x hx)))) <| .cons (Dat.view (Dat.fnC (.refl fun x hx => .b (List.all_eq_true.1 (((fok_layout_numberOf_8 h_y7).2)).1 x hx)))) <| .nil))))
       rfl
      ·
       exact (noneB h).elim

theorem fok_layout_numberOf {p : api_Param} {r : layout_number} (h : layout_numberOf p = some r) : FOK99 r.encode ∧ FOK100 r.decode := by
 have key : AllS (fun r => FOK99 r.encode ∧ FOK100 r.decode) (layout_numberOf p) := by
  unfold layout_numberOf
  repeat' (first | exact as_none | with_reducible refine as_ite ?_ ?_ | with_reducible refine as_bind fun _ _ => ?_ | with_reducible refine as_t1 ?_)
  all_goals first | exact as_some ⟨((fok_layout_numberOf_3 (by assumption)).1), ((fok_layout_numberOf_3 (by assumption)).2)⟩ | exact as_some ⟨((fok_layout_numberOf_4 (by assumption)).1), ((fok_layout_numberOf_4 (by assumption)).2)⟩ | exact as_some ⟨((fok_layout_numberOf_5 (by assumption)).1), ((fok_layout_numberOf_5 (by assumption)).2)⟩ | exact as_some ⟨((fok_layout_numberOf_6 (by assumption)).1), ((fok_layout_numberOf_6 (by assumption)).2)⟩ | exact as_some ⟨((fok_layout_numberOf_7 (by assumption)).1), ((fok_layout_numberOf_7 (by assumption)).2)⟩ | exact as_some ⟨((fok_layout_numberOf_8 (by assumption)).1), ((fok_layout_numberOf_8 (by assumption)).2)⟩
 exact key r h

theorem ok_layout_decoded {p : api_Param} {raw : Int} {r : Int × Bool} (h : layout_decoded p raw = some r) :
  CSpec Try.prog gl0 69 [.agg [.str p.Name, .int .i64 p.Kind, .sl 109 (List.map R109 p.Parts), .int .i64 p.First, .int .i64 p.Every, .int .i64 p.Times, .int .i64 p.Step, .sl 9 (List.map R9 p.Names)], .int .i64 raw] (.tuple [.int .i64 r.1, .bool r.2]) := by
 unfold layout_decoded at h
 replace h := bnd0 h
 refine spec_of (by kernel_rfl) Try.func69 rfl rfl ?_
 intro w0 A
 refine T_seq (T_reg ?_)
 refine R_q _ rfl (v_boxD (cva (ov rfl)) rfl tZ_43 rfl) ?_
 refine R_q _ rfl (v_assign (ov rfl)) ?_
 refine R_q _ rfl (v_assign (ov rfl)) ?_
 refine R_nil ?_
 refine T_keep (kc 1 rfl <| kc 2 rfl <| kn) rfl ?_
 refine T_seq (T_reg ?_)
 refine R_q _ rfl (v_loadA_r (ov rfl) tA43 rfl rfl) ?_
 obtain ⟨y, h_y, h⟩ := bnd h
 refine R_q _ rfl (v_call (ok_layout_numberOf h_y) (.cons (ov rfl) (.aggB rfl) <| .nil)) ?_
 refine R_q _ rfl (v_fieldV (ov rfl) tFs102_3 rfl) ?_
 refine R_q _ rfl (v_move (ov rfl)) ?_
 obtain ⟨y2, h_y2, h⟩ := bnd h
 refine R_q _ rfl (v_callC (ov rfl) (((fok_layout_numberOf h_y).2)).1 ((((fok_layout_numberOf h_y).2)).2 _ _ h_y2) (.cons (ov rfl) (.b rfl) <| .nil)) ?_
 refine R_q _ rfl (v_move (ov rfl)) ?_
 refine R_q _ rfl (v_extract (ov rfl) rfl) ?_
 refine R_q _ rfl (v_extract (ov rfl) rfl) ?_
 refine R_q _ rfl (v_assign (ov rfl)) ?_
 refine R_q _ rfl (v_assign (ov rfl)) ?_
 refine R_nil ?_
 refine T_seq ?_
 refine T_keep (kc 6 rfl <| kc 7 rfl <| kn) rfl ?_
 refine T_seq (T_reg ?_)
 refine R_q _ rfl (v_move (ov rfl)) ?_
 refine R_q _ rfl (v_not (ov rfl)) ?_
 refine R_nil ?_
 refine T_keep (kc 6 rfl <| kc 17 rfl <| kn) rfl ?_
 refine T_if h rfl (fun b17 h => ?_) (fun b17 h => ?_)
 ·
  refine T_keep (kn) rfl ?_
  refine T_seq (T_reg ?_)
  refine R_q _ rfl (v_assign (ov rfl)) ?_
  refine R_q _ rfl (v_assign (ov rfl)) ?_
  refine R_nil ?_
  obtain rfl := rt (v := (0, false)) h
  refine T_ret (retq ?_ (.two (.tmp rfl (Dat.view (.b rfl))) (.tmp rfl (Dat.view (.b rfl)))))
  rfl
 ·
  refine T_skip ?_
  refine T_keep (kc 6 rfl <| kn) rfl ?_
  refine T_seq (T_reg ?_)
  refine R_q _ rfl (v_move (ov rfl)) ?_
  refine R_q _ rfl (v_assign (ov rfl)) ?_
  refine R_q _ rfl (v_assign (ov rfl)) ?_
  refine R_nil ?_
  obtain rfl := rt (v := (y2.1, true)) h
  refine T_ret (retq ?_ (.two (.tmp rfl (Dat.view (.b rfl))) (.tmp rfl (Dat.view (.b rfl)))))
  rfl

theorem ok_layout_Unpack {m : api_Map} {l : Vector (List Int) 16} {r : (List api_Reading) × Int} (h : layout_Unpack m l = some r) :
  CSpec Try.prog gl0 18 [.agg [.int .i64 m.Version, .sl 43 (List.map R43 m.Params)], .agg (List.map C25 l.toList)] (.tuple [.sl 36 (List.map R36 r.1), .int .i64 r.2]) := by
 unfold layout_Unpack at h
 replace h := bnd0 h
 refine spec_of (by kernel_rfl) Try.func18 rfl rfl ?_
 intro w0 A
 refine T_seq (T_reg ?_)
 refine R_q _ rfl (v_boxD (cva (ov rfl)) rfl tZ_24 rfl) ?_
 refine R_q _ rfl (v_boxD (cva (ov rfl)) arL tZ_26 (arD fun _ => rfl)) ?_
 refine R_q _ rfl (v_assign (ov rfl)) ?_
 refine R_q _ rfl (v_assign (ov rfl)) ?_
 refine R_nil ?_
 refine T_seq ?_
 refine T_keep (kc 2 rfl <| kc 3 rfl <| kn) rfl ?_
 refine T_seq (T_reg ?_)
 refine R_q _ rfl (v_loadA_r (ov rfl) tA24 rfl rfl) ?_
 obtain ⟨y, h_y, h⟩ := bnd h
 refine R_q _ rfl (v_call (ok_layout_check h_y) (.cons (ov rfl) (.aggB rfl) <| .nil)) ?_
 refine R_q _ rfl (v_move (ov rfl)) ?_
 refine R_q _ rfl (v_extract (ov rfl) rfl) ?_
 refine R_q _ rfl (v_extract (ov rfl) rfl) ?_
 refine R_q _ rfl (v_assign (ov rfl)) ?_
 refine R_q _ rfl (v_assign (ov rfl)) ?_
 refine R_nil ?_
 refine T_keep (kc 2 rfl <| kc 3 rfl <| kc 7 rfl <| kn) rfl ?_
 refine T_seq (T_reg ?_)
 refine R_q _ rfl (v_move (ov rfl)) ?_
 refine R_q _ rfl (v_neq (ov rfl) (ov rfl)) ?_
 refine R_nil ?_
 refine T_keep (kc 2 rfl <| kc 3 rfl <| kc 7 rfl <| kc 23 rfl <| kn) rfl ?_
 refine T_if h rfl (fun b23 h => ?_) (fun b23 h => ?_)
 ·
  refine T_keep (kc 7 rfl <| kn) rfl ?_
  refine T_seq (T_reg ?_)
  refine R_q _ rfl (v_move (ov rfl)) ?_
  refine R_q _ rfl (v_assign (ov rfl)) ?_
  refine R_q _ rfl (v_assign (ov rfl)) ?_
  refine R_nil ?_
  obtain rfl := rt (v := ([], y.2)) h
  refine T_ret (retq ?_ (.two (.tmp rfl (View.nils 36)) (.tmp rfl (Dat.view (.b rfl)))))
  rfl
 ·
  refine T_skip ?_
  refine T_joinG (fun j => (.inr j)) (t0 ⟨[(2, .rp [.int .i64 m.Version, .sl 43 (List.map R43 m.Params)] 0), (3, .rp (List.map C25 l.toList) 0)], []⟩) h (fun h => ?_) (fun j h => ?_)
  ·
   refine T_keep (kc 2 rfl <| kc 3 rfl <| kn) rfl ?_
   refine T_seq (T_reg ?_)
   refine R_q _ rfl (v_loadA_r (ov rfl) tA26 arW arL) ?_
   refine R_q _ rfl (v_move (ov rfl)) ?_
   refine R_nil ?_
   refine T_block ?_
   obtain ⟨r1, hl1, ho1⟩ := bndL h
   refine T_loopG _ (t1 fun i => ⟨[(2, .rp [.int .i64 m.Version, .sl 43 (List.map R43 m.Params)] 0), (3, .rp (List.map C25 l.toList) 0), (25, .agg (List.map C25 l.toList)), (26, .int .i64 i)], []⟩) _ hl1 (Ent.sel [] (sd 2 rfl rfl <| sd 3 rfl rfl <| sr 25 rfl (rAgg (rld (arD fun _ => rfl))) <| sd 26 rfl rfl <| sn) (.nil) rfl rfl) (fun n1 s1 h => ?_)
   obtain ⟨i, rfl⟩ : ∃ x, x = s1 := ⟨_, rfl⟩
   replace h := t1i h
   refine t1T ?_
   unfold layout_Unpack_L1 at h
   refine T_seq (T_reg ?_)
   refine R_q _ rfl (v_lss (ov rfl) (ov rfl)) ?_
   refine R_nil ?_
   refine T_seq ?_
   refine T_if h rfl (fun b27 h => ?_) (fun b27 h => ?_)
   ·
    refine T_skip ?_
    refine T_seq ?_
    refine T_block ?_
    refine T_keep (kc 2 rfl <| kc 3 rfl <| kc 25 rfl <| kc 26 rfl <| kn) rfl ?_
    refine T_seq (T_reg ?_)
    obtain ⟨x, h_x, h⟩ := bnd h
    refine R_q _ rfl (v_indexVG (ov rfl) (ov rfl) tR26 tS25 h_x) ?_
    refine R_q _ rfl (v_assign (ov rfl)) ?_
    refine R_nil ?_
    refine T_seq ?_
    refine T_keep (kc 2 rfl <| kc 3 rfl <| kc 9 rfl <| kc 25 rfl <| kc 26 rfl <| kn) rfl ?_
    refine T_seq (T_reg ?_)
    refine R_q _ rfl (v_move (ov rfl)) ?_
    refine R_q _ rfl (v_len (slv_sl (ov rfl) tZ_3) tL25 (len_map _ _)) ?_
    refine R_q _ rfl (v_neq (ov rfl) (ov rfl)) ?_
    refine R_nil ?_
    refine T_keep (kc 2 rfl <| kc 3 rfl <| kc 9 rfl <| kc 25 rfl <| kc 26 rfl <| kc 31 rfl <| kn) rfl ?_
    refine T_if h rfl (fun b31 h => ?_) (fun b31 h => ?_)
    ·
     refine T_keep (kn) rfl ?_
     refine T_seq (T_reg ?_)
     refine R_q _ rfl (v_assign (ov rfl)) ?_
     refine R_q _ rfl (v_assign (ov rfl)) ?_
     refine R_nil ?_
     rw [lx h] at ho1
     replace h := ho1
     obtain rfl := rt (v := ([], 3)) h
     refine T_ret (retq ?_ (.two (.tmp rfl (View.nils 36)) (.tmp rfl (Dat.view (.b rfl)))))
     rfl
    ·
     refine T_skip ?_
     refine T_keep (kc 2 rfl <| kc 3 rfl <| kc 9 rfl <| kc 25 rfl <| kc 26 rfl <| kn) rfl ?_
     refine T_seq (T_reg ?_)
     refine R_q _ rfl (v_move (ov rfl)) ?_
     obtain ⟨y2, h_y2, h⟩ := bnd h
     refine R_q _ rfl (v_call (ok_slices_ContainsFunc_int_int rfl (fun z0 _ hz => ok_layout_Unpack_1 hz) h_y2) (.cons (ov rfl) (.b rfl) <| .cons (ov rfl) (.fn) <| .nil)) ?_
     refine R_nil ?_
     refine T_keep (kc 2 rfl <| kc 3 rfl <| kc 25 rfl <| kc 26 rfl <| kc 33 rfl <| kn) rfl ?_
     refine T_if h rfl (fun b33 h => ?_) (fun b33 h => ?_)
     ·
      refine T_keep (kn) rfl ?_
      refine T_seq (T_reg ?_)
      refine R_q _ rfl (v_assign (ov rfl)) ?_
      refine R_q _ rfl (v_assign (ov rfl)) ?_
      refine R_nil ?_
      rw [lx h] at ho1
      replace h := ho1
      obtain rfl := rt (v := ([], 9)) h
      refine T_ret (retq ?_ (.two (.tmp rfl (View.nils 36)) (.tmp rfl (Dat.view (.b rfl)))))
      rfl
     ·
      refine T_skip ?_
      refine T_keep (kc 2 rfl <| kc 3 rfl <| kc 25 rfl <| kc 26 rfl <| kn) rfl ?_
      refine T_reg ?_
      refine R_q _ rfl (v_add (ov rfl) (ov rfl) rfl) ?_
      refine R_q _ rfl (v_move (ov rfl)) ?_
      refine R_nil ?_
      exact ⟨(i64 (i + 1)), h, Ent.sel [] (sd 2 rfl rfl <| sd 3 rfl rfl <| sr 25 rfl (rAgg (rld (arD fun _ => rfl))) <| sd 26 rfl rfl <| sn) (.nil) rfl rfl⟩
   ·
    refine T_exit ?_
    rw [lx h] at ho1
    replace h := ho1
    exact ⟨(), h, Ent.sel [] (sd 2 rfl rfl <| sd 3 rfl rfl <| sn) (.nil) rfl rfl⟩
  ·
   replace h := elr h
   cases j
   replace h := t0i h
   refine t0T ?_
   refine T_joinG (fun j => (.inr j)) (t0 ⟨[(2, .rp [.int .i64 m.Version, .sl 43 (List.map R43 m.Params)] 0), (3, .rp (List.map C25 l.toList) 0)], []⟩) h (fun h => ?_) (fun j h => ?_)
   ·
    refine T_seq (T_reg ?_)
    refine R_q _ rfl (v_loadA_r (ov rfl) tA26 arW arL) ?_
    refine R_q _ rfl (v_move (ov rfl)) ?_
    refine R_nil ?_
    refine T_block ?_
    obtain ⟨r2, hl2, ho2⟩ := bndL h
    refine T_loopG _ (t1 fun i2 => ⟨[(2, .rp [.int .i64 m.Version, .sl 43 (List.map R43 m.Params)] 0), (3, .rp (List.map C25 l.toList) 0), (35, .agg (List.map C25 l.toList)), (36, .int .i64 i2)], []⟩) _ hl2 (Ent.sel [] (sd 2 rfl rfl <| sd 3 rfl rfl <| sr 35 rfl (rAgg (rld (arD fun _ => rfl))) <| sd 36 rfl rfl <| sn) (.nil) rfl rfl) (fun n2 s2 h => ?_)
    obtain ⟨i2, rfl⟩ : ∃ x, x = s2 := ⟨_, rfl⟩
    replace h := t1i h
    refine t1T ?_
    unfold layout_Unpack_L2 at h
    refine T_seq (T_reg ?_)
    refine R_q _ rfl (v_lss (ov rfl) (ov rfl)) ?_
    refine R_nil ?_
    refine T_seq ?_
    refine T_if h rfl (fun b37 h => ?_) (fun b37 h => ?_)
    ·
     refine T_skip ?_
     refine T_seq ?_
     refine T_block ?_
     refine T_keep (kc 2 rfl <| kc 3 rfl <| kc 35 rfl <| kc 36 rfl <| kn) rfl ?_
     refine T_seq (T_reg ?_)
     obtain ⟨x2, h_x2, h⟩ := bnd h
     refine R_q _ rfl (v_indexVG (ov rfl) (ov rfl) tR26 tS25 h_x2) ?_
     refine R_q _ rfl (v_assign (ov rfl)) ?_
     refine R_nil ?_
     refine T_keep (kc 2 rfl <| kc 3 rfl <| kc 11 rfl <| kc 35 rfl <| kc 36 rfl <| kn) rfl ?_
     refine T_seq (T_draw (cw := md0) (by kernel_rfl) ?_)
     refine D_q0 0 _ rfl (by kernel_rfl) rfl rfl (v_move (ov rfl)) ?_
     obtain ⟨x3, h_x3, h⟩ := bnd h
     refine D_q0 1 _ rfl (by kernel_rfl) rfl rfl (v_ixSG (ov rfl) (ov rfl) tL25 h_x3) ?_
     refine D_q0 2 _ rfl (by kernel_rfl) rfl rfl (v_loadS_r (ov rfl) tS3 rfl) ?_
     refine D_q0 3 _ rfl (by kernel_rfl) rfl rfl (v_fieldR (ov rfl) tF24_0) ?_
     refine D_q0 4 _ rfl (by kernel_rfl) rfl rfl (v_loadS_r (ov rfl) tS3 rfl) ?_
     refine D_q0 5 _ rfl (by kernel_rfl) rfl rfl (v_neq (ov rfl) (ov rfl)) ?_
     refine D_done (by kernel_rfl) ?_
     refine T_keep (kc 2 rfl <| kc 3 rfl <| kc 35 rfl <| kc 36 rfl <| kc 44 rfl <| kn) rfl ?_
     refine T_if h rfl (fun b44 h => ?_) (fun b44 h => ?_)
     ·
      refine T_keep (kn) rfl ?_
      refine T_seq (T_reg ?_)
      refine R_q _ rfl (v_assign (ov rfl)) ?_
      refine R_q _ rfl (v_assign (ov rfl)) ?_
      refine R_nil ?_
      rw [lx h] at ho2
      replace h := ho2
      obtain rfl := rt (v := ([], 11)) h
      refine T_ret (retq ?_ (.two (.tmp rfl (View.nils 36)) (.tmp rfl (Dat.view (.b rfl)))))
      rfl
     ·
      refine T_skip ?_
      refine T_keep (kc 2 rfl <| kc 3 rfl <| kc 35 rfl <| kc 36 rfl <| kn) rfl ?_
      refine T_reg ?_
      refine R_q _ rfl (v_add (ov rfl) (ov rfl) rfl) ?_
      refine R_q _ rfl (v_move (ov rfl)) ?_
      refine R_nil ?_
      exact ⟨(i64 (i2 + 1)), h, Ent.sel [] (sd 2 rfl rfl <| sd 3 rfl rfl <| sr 35 rfl (rAgg (rld (arD fun _ => rfl))) <| sd 36 rfl rfl <| sn) (.nil) rfl rfl⟩
    ·
     refine T_exit ?_
     rw [lx h] at ho2
     replace h := ho2
     exact ⟨(), h, Ent.sel [] (sd 2 rfl rfl <| sd 3 rfl rfl <| sn) (.nil) rfl rfl⟩
   ·
    replace h := elr h
    cases j
    replace h := t0i h
    refine t0T ?_
    refine T_seq (T_reg ?_)
    refine R_q _ rfl (v_assign (ov rfl)) ?_
    refine R_nil ?_
    refine T_joinG id (t1 fun out => ⟨[(12, .own 0 out.length)], [some ⟨36, List.map R36 out⟩]⟩) h (fun h => ?_) (fun j h => ?_)
    ·
     refine T_seq (T_reg ?_)
     refine R_q _ rfl (v_loadA_r (ov rfl) tA24 rfl rfl) ?_
     obtain ⟨y3, h_y3, h⟩ := bnd h
     refine R_q _ rfl (v_call (ok_layout_cells h_y3) (.cons (ov rfl) (.aggB rfl) <| .nil)) ?_
     refine R_q _ rfl (v_len (slv_sl (ov rfl) tZ_54) tL62 (len_map _ _)) ?_
     refine R_q _ rfl (v_move (ov rfl)) ?_
     refine R_nil ?_
     refine T_block ?_
     obtain ⟨r3, hl3, ho3⟩ := bndL h
     refine T_loopG _ (t2 fun out2 i3 => ⟨[(2, .rp [.int .i64 m.Version, .sl 43 (List.map R43 m.Params)] 0), (3, .rp (List.map C25 l.toList) 0), (12, .own 0 out2.length), (47, .sl 54 (List.map R54 y3)), (48, .int .i64 (y3.length : Int)), (49, .int .i64 i3)], [some ⟨36, List.map R36 out2⟩]⟩) _ hl3 (Ent.sel [none] (sd 2 rfl rfl <| sd 3 rfl rfl <| sr 12 rfl (.row rfl) <| sd 47 rfl rfl <| sd 48 rfl rfl <| sd 49 rfl rfl <| sn) (.row 36 <| .nil) rfl rfl) (fun n3 s3 h => ?_)
     obtain ⟨out2, i3⟩ := s3
     replace h := t2i h
     refine t2T ?_
     unfold layout_Unpack_L3 at h
     refine T_seq (T_reg ?_)
     refine R_q _ rfl (v_lss (ov rfl) (ov rfl)) ?_
     refine R_nil ?_
     refine T_seq ?_
     refine T_if h rfl (fun b50 h => ?_) (fun b50 h => ?_)
     ·
      refine T_skip ?_
      refine T_seq ?_
      refine T_block ?_
      refine T_keep (kc 2 rfl <| kc 3 rfl <| kc 12 rfl <| kc 47 rfl <| kc 48 rfl <| kc 49 rfl <| kn) rfl ?_
      refine T_seq (T_reg ?_)
      obtain ⟨x4, h_x4, h⟩ := bnd h
      refine R_q _ rfl (v_ixSG (ov rfl) (ov rfl) tL62 h_x4) ?_
      refine R_q _ rfl (v_loadA_r (ov rfl) tA54 rfl rfl) ?_
      refine R_w _ _ rfl (w_alloc (row := [_, _, _, _]) 1 rfl tZ54 rfl tZ_54) ?_
      refine R_w _ _ rfl (w_store (ov rfl) (ov rfl) (cells_agg tA54 rfl) rfl rfl rfl (Nat.le_of_ble_eq_true rfl) (cell1_all rfl) rfl) ?_
      refine R_nil ?_
      refine T_keep (kc 2 rfl <| kc 3 rfl <| kc 12 rfl <| kc 14 rfl <| kc 47 rfl <| kc 48 rfl <| kc 49 rfl <| kn) rfl ?_
      refine T_seq (T_draw (cw := md0) (by kernel_rfl) ?_)
      refine D_q0 0 _ rfl (by kernel_rfl) rfl rfl (v_fieldR (ov rfl) tF24_1) ?_
      refine D_q0 1 _ rfl (by kernel_rfl) rfl rfl (v_loadS_r (ov rfl) tS22 rfl) ?_
      refine D_q0 2 _ rfl (by kernel_rfl) rfl rfl (v_fieldP (ov rfl) rfl rfl tF54_0) ?_
      refine D_q0 3 _ rfl (by kernel_rfl) rfl rfl (v_loadS (ov rfl) rfl rfl rfl tS3 rfl) ?_
      obtain ⟨x5, h_x5, h⟩ := bnd h
      refine D_q0 4 _ rfl (by kernel_rfl) rfl rfl (v_ixSG (ov rfl) (ov rfl) tL22 h_x5) ?_
      refine D_q0 5 _ rfl (by kernel_rfl) rfl rfl (v_loadA_r (ov rfl) tA43 rfl rfl) ?_
      refine D_q0 6 _ rfl (by kernel_rfl) rfl rfl (v_loadA (ov rfl) rfl rfl rfl tA54 rfl rfl) ?_
      refine D_q0 7 _ rfl (by kernel_rfl) rfl rfl (v_loadA_r (ov rfl) tA26 arW arL) ?_
      obtain ⟨y4, h_y4, h⟩ := bnd h
      refine D_q0 8 _ rfl (by kernel_rfl) rfl rfl (v_call (ok_layout_rawOf h_y4) (.cons (ov rfl) (.aggB rfl) <| .cons (ov rfl) (.aggB (arD fun _ => rfl)) <| .nil)) ?_
      obtain ⟨y5, h_y5, h⟩ := bnd h
      refine D_q0 9 _ rfl (by kernel_rfl) rfl rfl (v_call (ok_layout_decoded h_y5) (.cons (ov rfl) (.aggB rfl) <| .cons (ov rfl) (.b rfl) <| .nil)) ?_
      refine D_q0 10 _ rfl (by kernel_rfl) rfl rfl (v_move (ov rfl)) ?_
      refine D_q0 11 _ rfl (by kernel_rfl) rfl rfl (v_extract (ov rfl) rfl) ?_
      refine D_q0 12 _ rfl (by kernel_rfl) rfl rfl (v_extract (ov rfl) rfl) ?_
      refine D_q0 13 _ rfl (by kernel_rfl) rfl rfl (v_assign (ov rfl)) ?_
      refine D_q0 14 _ rfl (by kernel_rfl) rfl rfl (v_assign (ov rfl)) ?_
      refine D_done (by kernel_rfl) ?_
      refine T_keep (kc 2 rfl <| kc 3 rfl <| kc 12 rfl <| kc 14 rfl <| kc 15 rfl <| kc 16 rfl <| kc 47 rfl <| kc 48 rfl <| kc 49 rfl <| kn) rfl ?_
      refine T_reg ?_
      refine R_q _ rfl (v_move (ov rfl)) ?_
      refine R_q _ rfl (v_fieldP (ov rfl) rfl rfl tF54_0) ?_
      refine R_q _ rfl (v_loadS (ov rfl) rfl rfl rfl tS3 rfl) ?_
      refine R_q _ rfl (v_fieldP (ov rfl) rfl rfl tF54_1) ?_
      refine R_q _ rfl (v_loadS (ov rfl) rfl rfl rfl tS3 rfl) ?_
      refine R_q _ rfl (v_move (ov rfl)) ?_
      refine R_q _ rfl (v_move (ov rfl)) ?_
      refine R_q _ rfl (v_build (ys := [_, _, _, _]) tPL36 tHA36 tZ36 (.cons (cvs (ov rfl) (cell1_b rfl)) <| .cons (cvs (ov rfl) (cell1_b rfl)) <| .cons (cvs (ov rfl) (cell1_b rfl)) <| .cons (cvs (ov rfl) (cell1_b rfl)) <| .nil) rfl) ?_
      refine R_q (.sl 36 (List.map R36 ([(api_Reading.mk x4.Param x4.Index y5.1 y5.2)] : List api_Reading))) rfl (v_lit tL32 (.cons (cva (ov rfl)) rfl (pwD rfl) <| .nil) rfl rfl) ?_
      obtain ⟨l2, h_l2, h⟩ := bnd h
      refine R_w _ _ rfl (w_appendG (ov rfl) (slv_sl (ov rfl) tZ_36) tL32 rfl rfl rfl (fun _ => cell1_all rfl) rfl h_l2) ?_
      refine R_q _ rfl (v_assign (ov rfl)) ?_
      refine R_nil ?_
      refine T_keep (kc 2 rfl <| kc 3 rfl <| kc 12 rfl <| kc 47 rfl <| kc 48 rfl <| kc 49 rfl <| kn) rfl ?_
      refine T_reg ?_
      refine R_q _ rfl (v_add (ov rfl) (ov rfl) rfl) ?_
      refine R_q _ rfl (v_move (ov rfl)) ?_
      refine R_nil ?_
      exact ⟨(l2, (i64 (i3 + 1))), h, Ent.sel [some 0] (sd 2 rfl rfl <| sd 3 rfl rfl <| sr 12 rfl (.own _ rfl) <| sd 47 rfl rfl <| sd 48 rfl rfl <| sd 49 rfl rfl <| sn) (.cons rfl (roM D36) <| .nil) rfl rfl⟩
     ·
      refine T_exit ?_
      rw [lx h] at ho3
      replace h := ho3
      exact ⟨out2, h, Ent.sel [some 0] (sr 12 rfl (.own _ rfl) <| sn) (.cons rfl (roM D36) <| .nil) rfl rfl⟩
    ·
     obtain ⟨out, rfl⟩ : ∃ x, x = j := ⟨_, rfl⟩
     replace h := t1i h
     refine t1T ?_
     refine T_seq (T_reg ?_)
     refine R_q _ rfl (v_move (ov rfl)) ?_
     refine R_q _ rfl (v_assign (ov rfl)) ?_
     refine R_q _ rfl (v_assign (ov rfl)) ?_
     refine R_nil ?_
     obtain rfl := rt (v := (out, 0)) h
     refine T_ret (retq ?_ (.two (.tmp rfl (View.ownM rfl rfl D36)) (.tmp rfl (Dat.view (.b rfl)))))
     rfl

theorem ok_layout_Pack {m : api_Map} {l : List Int} {r : (Vector (List Int) 16) × Int} (h : layout_Pack m l = some r) :
  CSpec Try.prog gl0 14 [.agg [.int .i64 m.Version, .sl 43 (List.map R43 m.Params)], .sl 3 (List.map R3 l)] (.tuple [.agg (List.map C25 r.1.toList), .int .i64 r.2]) := by
 unfold layout_Pack at h
 replace h := bnd0 h
 refine spec_of (by kernel_rfl) Try.func14 rfl rfl ?_
 intro w0 A
 refine T_seq (T_reg ?_)
 refine R_q _ rfl (v_boxD (cva (ov rfl)) rfl tZ_24 rfl) ?_
 refine R_w _ _ rfl (w_alloc (row := [_, _, _, _, _, _, _, _, _, _, _, _, _, _, _, _]) 0 rfl tZ26 rfl tZ_26) ?_
 refine R_q _ rfl (v_assign (ov rfl)) ?_
 refine R_nil ?_
 refine T_keep (kc 1 rfl <| kc 2 rfl <| kc 4 rfl <| kn) rfl ?_
 refine T_seq (T_reg ?_)
 refine R_w _ _ rfl (w_alloc (row := [_, _, _, _, _, _, _, _, _, _, _, _, _, _, _, _]) 1 rfl tZ26 rfl tZ_26) ?_
 refine R_w _ _ rfl (w_alloc (row := [_, _, _, _, _, _, _, _, _, _, _, _, _, _, _, _]) 2 rfl tZ26 rfl tZ_26) ?_
 refine R_nil ?_
 refine T_seq ?_
 refine T_seq (T_reg ?_)
 refine R_q _ rfl (v_loadA_r (ov rfl) tA24 rfl rfl) ?_
 obtain ⟨y, h_y, h⟩ := bnd h
 refine R_q _ rfl (v_call (ok_layout_check h_y) (.cons (ov rfl) (.aggB rfl) <| .nil)) ?_
 refine R_q _ rfl (v_move (ov rfl)) ?_
 refine R_q _ rfl (v_extract (ov rfl) rfl) ?_
 refine R_q _ rfl (v_extract (ov rfl) rfl) ?_
 refine R_q _ rfl (v_assign (ov rfl)) ?_
 refine R_q _ rfl (v_assign (ov rfl)) ?_
 refine R_nil ?_
 refine T_keep (kc 1 rfl <| kc 2 rfl <| kc 4 rfl <| kc 6 rfl <| kc 7 rfl <| kc 9 rfl <| kn) rfl ?_
 refine T_seq (T_reg ?_)
 refine R_q _ rfl (v_move (ov rfl)) ?_
 refine R_q _ rfl (v_neq (ov rfl) (ov rfl)) ?_
 refine R_nil ?_
 refine T_keep (kc 1 rfl <| kc 2 rfl <| kc 4 rfl <| kc 6 rfl <| kc 7 rfl <| kc 9 rfl <| kc 25 rfl <| kn) rfl ?_
 refine T_if h rfl (fun b25 h => ?_) (fun b25 h => ?_)
 ·
  refine T_keep (kc 4 rfl <| kc 7 rfl <| kc 9 rfl <| kn) rfl ?_
  refine T_seq (T_reg ?_)
  refine R_q _ rfl (v_loadA (ov rfl) rfl rfl rfl tA26 rfl rfl) ?_
  refine R_q _ rfl (v_move (ov rfl)) ?_
  refine R_w _ _ rfl (w_store (ov rfl) (ov rfl) (cells_agg tA26 rfl) rfl rfl rfl (Nat.le_of_ble_eq_true rfl) (cell1_all rfl) rfl) ?_
  refine R_q _ rfl (v_assign (ov rfl)) ?_
  refine R_nil ?_
  obtain rfl := rt (v := ((Vector.replicate 16 []), y.2)) h
  refine T_ret (retq ?_ (.two (.agg rfl rfl rfl rfl tA26 rfl rfl (pwZ (m := 16) (f := C25) rfl rfl)) (.tmp rfl (Dat.view (.b rfl)))))
  rfl
 ·
  refine T_skip ?_
  refine T_keep (kc 1 rfl <| kc 2 rfl <| kc 4 rfl <| kc 6 rfl <| kc 7 rfl <| kn) rfl ?_
  refine T_seq (T_reg ?_)
  refine R_q _ rfl (v_loadA_r (ov rfl) tA24 rfl rfl) ?_
  obtain ⟨y2, h_y2, h⟩ := bnd h
  refine R_q _ rfl (v_call (ok_layout_cells h_y2) (.cons (ov rfl) (.aggB rfl) <| .nil)) ?_
  refine R_q _ rfl (v_assign (ov rfl)) ?_
  refine R_nil ?_
  refine T_seq ?_
  refine T_keep (kc 1 rfl <| kc 2 rfl <| kc 4 rfl <| kc 6 rfl <| kc 7 rfl <| kc 10 rfl <| kn) rfl ?_
  refine T_seq (T_reg ?_)
  refine R_q _ rfl (v_move (ov rfl)) ?_
  refine R_q _ rfl (v_len (slv_sl (ov rfl) tZ_3) tL25 (len_map _ _)) ?_
  refine R_q _ rfl (v_move (ov rfl)) ?_
  refine R_q _ rfl (v_len (slv_sl (ov rfl) tZ_54) tL62 (len_map _ _)) ?_
  refine R_q _ rfl (v_neq (ov rfl) (ov rfl)) ?_
  refine R_nil ?_
  refine T_keep (kc 1 rfl <| kc 2 rfl <| kc 4 rfl <| kc 6 rfl <| kc 7 rfl <| kc 10 rfl <| kc 34 rfl <| kn) rfl ?_
  refine T_if h rfl (fun b34 h => ?_) (fun b34 h => ?_)
  ·
   refine T_keep (kc 4 rfl <| kc 7 rfl <| kn) rfl ?_
   refine T_seq (T_reg ?_)
   refine R_q _ rfl (v_loadA (ov rfl) rfl rfl rfl tA26 rfl rfl) ?_
   refine R_w _ _ rfl (w_store (ov rfl) (ov rfl) (cells_agg tA26 rfl) rfl rfl rfl (Nat.le_of_ble_eq_true rfl) (cell1_all rfl) rfl) ?_
   refine R_q _ rfl (v_assign (ov rfl)) ?_
   refine R_nil ?_
   obtain rfl := rt (v := ((Vector.replicate 16 []), 3)) h
   refine T_ret (retq ?_ (.two (.agg rfl rfl rfl rfl tA26 rfl rfl (pwZ (m := 16) (f := C25) rfl rfl)) (.tmp rfl (Dat.view (.b rfl)))))
   rfl
  ·
   refine T_skip ?_
   refine T_joinG id (t1 fun out => ⟨[(1, .sl 3 (List.map R3 l)), (2, .rp [.int .i64 m.Version, .sl 43 (List.map R43 m.Params)] 0), (4, .ptr 0 1 0 0), (6, .ptr 1 1 0 0), (7, .ptr 2 1 0 0), (10, .sl 54 (List.map R54 y2))], [some ⟨26, [[.nils, .nils, .nils, .nils, .nils, .nils, .nils, .nils, .nils, .nils, .nils, .nils, .nils, .nils, .nils, .nils]]⟩, some ⟨26, [(List.map (osF 3 R3) out.toList)]⟩, some ⟨26, [[.nils, .nils, .nils, .nils, .nils, .nils, .nils, .nils, .nils, .nils, .nils, .nils, .nils, .nils, .nils, .nils]]⟩]⟩) h (fun h => ?_) (fun j h => ?_)
   ·
    refine T_keep (kc 1 rfl <| kc 2 rfl <| kc 4 rfl <| kc 6 rfl <| kc 7 rfl <| kc 10 rfl <| kn) rfl ?_
    refine T_seq (T_reg ?_)
    refine R_q _ rfl (v_move (ov rfl)) ?_
    refine R_nil ?_
    refine T_block ?_
    obtain ⟨r1, hl1, ho1⟩ := bndL h
    refine T_loopG _ (t2 fun out2 i => ⟨[(1, .sl 3 (List.map R3 l)), (2, .rp [.int .i64 m.Version, .sl 43 (List.map R43 m.Params)] 0), (4, .ptr 0 1 0 0), (6, .ptr 1 1 0 0), (7, .ptr 2 1 0 0), (10, .sl 54 (List.map R54 y2)), (36, .int .i64 i)], [some ⟨26, [[.nils, .nils, .nils, .nils, .nils, .nils, .nils, .nils, .nils, .nils, .nils, .nils, .nils, .nils, .nils, .nils]]⟩, some ⟨26, [(List.map (osF 3 R3) out2.toList)]⟩, some ⟨26, [[.nils, .nils, .nils, .nils, .nils, .nils, .nils, .nils, .nils, .nils, .nils, .nils, .nils, .nils, .nils, .nils]]⟩]⟩) _ hl1 (Ent.sel [some 0, some 1, some 2] (sd 1 rfl rfl <| sd 2 rfl rfl <| sr 4 rfl (.ptr _ _ _ rfl) <| sr 6 rfl (.ptr _ _ _ rfl) <| sr 7 rfl (.ptr _ _ _ rfl) <| sd 10 rfl rfl <| sd 36 rfl rfl <| sn) (.cons rfl (roZZ (by exact tZ_26.symm) rfl) <| .cons rfl (roZN rfl tZ_26) <| .cons rfl (roZZ (by exact tZ_26.symm) rfl) <| .nil) rfl rfl) (fun n1 s1 h => ?_)
    obtain ⟨out2, i⟩ := s1
    replace h := t2i h
    refine t2T ?_
    unfold layout_Pack_L1 at h
    refine T_seq (T_reg ?_)
    refine R_q _ rfl (v_lss (ov rfl) (ov rfl)) ?_
    refine R_nil ?_
    refine T_seq ?_
    refine T_if h rfl (fun b37 h => ?_) (fun b37 h => ?_)
    ·
     refine T_skip ?_
     refine T_seq ?_
     refine T_block ?_
     refine T_keep (kc 1 rfl <| kc 2 rfl <| kc 4 rfl <| kc 6 rfl <| kc 7 rfl <| kc 10 rfl <| kc 36 rfl <| kn) rfl ?_
     refine T_seq (T_reg ?_)
     refine R_q _ rfl (v_move (ov rfl)) ?_
     refine R_q _ rfl (v_assign (ov rfl)) ?_
     refine R_nil ?_
     refine T_keep (kc 1 rfl <| kc 2 rfl <| kc 4 rfl <| kc 6 rfl <| kc 7 rfl <| kc 10 rfl <| kc 11 rfl <| kc 36 rfl <| kn) rfl ?_
     refine T_seq (T_reg ?_)
     refine R_q _ rfl (v_move (ov rfl)) ?_
     obtain ⟨l2, h_l2, h⟩ := bnd h
     refine R_w _ _ rfl (w_makeG [none] (r := 3) (f := R3) (z0 := 0) rfl (ov rfl) (ov rfl) tL25 rfl tZ3 rfl rfl h_l2) ?_
     obtain ⟨x, h_x, h⟩ := bnd h
     refine R_q _ rfl (v_ixAG (ov rfl) (ov rfl) tR26 rfl rfl h_x) ?_
     refine R_w _ _ rfl (w_store (ov rfl) (ov rfl) (cells_scal tS25) rfl rfl rfl (arB h_x) (cell1_all rfl) (arSetS h_x)) ?_
     refine R_ent (Ent.absorbA (r := 1) (q := 3) rfl h_x rfl rfl rfl) ?_
     refine R_nil ?_
     refine T_keep (kc 1 rfl <| kc 2 rfl <| kc 4 rfl <| kc 6 rfl <| kc 7 rfl <| kc 10 rfl <| kc 11 rfl <| kc 36 rfl <| kn) rfl ?_
     obtain ⟨l3, h_l3, h⟩ := bnd h
     refine T_ent (Ent.focusA (r := 1) rfl h_l3 D3) ?_
     refine T_draw (cw := md0) (by kernel_rfl) ?_
     refine D_q0 0 _ rfl (by kernel_rfl) rfl rfl (v_move (ov rfl)) ?_
     obtain ⟨x2, h_x2, h⟩ := bnd h
     refine D_q0 1 _ rfl (by kernel_rfl) rfl rfl (v_ixAG (ov rfl) (ov rfl) tR26 rfl rfl h_x2) ?_
     refine D_q0 2 _ rfl (by kernel_rfl) rfl rfl (v_loadS (ov rfl) rfl rfl rfl tS25 (arSetG h_l3)) ?_
     refine D_q0 3 _ rfl (by kernel_rfl) rfl rfl (v_fieldR (ov rfl) tF24_0) ?_
     refine D_q0 4 _ rfl (by kernel_rfl) rfl rfl (v_loadS_r (ov rfl) tS3 rfl) ?_
     obtain ⟨x3, h_x3, h⟩ := bnd h
     refine D_q0 5 _ rfl (by kernel_rfl) rfl rfl (v_ixOG (ov rfl) (ov rfl) tL25 rfl rfl h_x3) ?_
     refine D_one 6 _ _ rfl (by kernel_rfl) rfl rfl (fun h => by cases h) (fun h => by cases h) (w_storeR (u' := m.Version) (ov rfl) (ov rfl) (cells_scal tS3) rfl rfl h_x3 rfl (cell1_all rfl) rfl) ?_
     refine D_done (by kernel_rfl) ?_
     refine T_ent (Ent.absorbA (r := 1) (q := 4) rfl h_l3 rfl ((List.length_set ..).trans rfl) rfl) ?_
     refine T_keep (kc 1 rfl <| kc 2 rfl <| kc 4 rfl <| kc 6 rfl <| kc 7 rfl <| kc 10 rfl <| kc 36 rfl <| kn) rfl ?_
     refine T_reg ?_
     refine R_q _ rfl (v_add (ov rfl) (ov rfl) rfl) ?_
     refine R_q _ rfl (v_move (ov rfl)) ?_
     refine R_nil ?_
     exact ⟨((vset (vset out2 i l2) i (l3.set (Int.toNat 0) m.Version)), (i64 (i + 1))), h, Ent.sel [some 0, some 1, some 2] (sd 1 rfl rfl <| sd 2 rfl rfl <| sr 4 rfl (.ptr _ _ _ rfl) <| sr 6 rfl (.ptr _ _ _ rfl) <| sr 7 rfl (.ptr _ _ _ rfl) <| sd 10 rfl rfl <| sd 36 rfl rfl <| sn) (.cons rfl (roZZ (by exact tZ_26.symm) rfl) <| .cons rfl (roNN tZ_26 D3) <| .cons rfl (roZZ (by exact tZ_26.symm) rfl) <| .nil) rfl rfl⟩
    ·
     refine T_exit ?_
     rw [lx h] at ho1
     replace h := ho1
     exact ⟨out2, h, Ent.sel [some 0, some 1, some 2] (sd 1 rfl rfl <| sd 2 rfl rfl <| sr 4 rfl (.ptr _ _ _ rfl) <| sr 6 rfl (.ptr _ _ _ rfl) <| sr 7 rfl (.ptr _ _ _ rfl) <| sd 10 rfl rfl <| sn) (.cons rfl (roZZ (by exact tZ_26.symm) rfl) <| .cons rfl (roNN tZ_26 D3) <| .cons rfl (roZZ (by exact tZ_26.symm) rfl) <| .nil) rfl rfl⟩
   ·
    obtain ⟨out, rfl⟩ : ∃ x, x = j := ⟨_, rfl⟩
    replace h := t1i h
    refine t1T ?_
    refine T_joinG (fun j => (.inr j)) (t1 fun out3 => ⟨[(4, .ptr 0 1 0 0), (6, .ptr 1 1 0 0)], [some ⟨26, [[.nils, .nils, .nils, .nils, .nils, .nils, .nils, .nils, .nils, .nils, .nils, .nils, .nils, .nils, .nils, .nils]]⟩, some ⟨26, [(List.map (osF 3 R3) out3.toList)]⟩]⟩) h (fun h => ?_) (fun j h => ?_)
    ·
     refine T_seq (T_reg ?_)
     refine R_q _ rfl (v_move (ov rfl)) ?_
     refine R_q _ rfl (v_len (slv_sl (ov rfl) tZ_54) tL62 (len_map _ _)) ?_
     refine R_q _ rfl (v_move (ov rfl)) ?_
     refine R_nil ?_
     refine T_block ?_
     obtain ⟨r2, hl2, ho2⟩ := bndL h
     refine T_loopG _ (t2 fun out4 i2 => ⟨[(1, .sl 3 (List.map R3 l)), (2, .rp [.int .i64 m.Version, .sl 43 (List.map R43 m.Params)] 0), (4, .ptr 0 1 0 0), (6, .ptr 1 1 0 0), (7, .ptr 2 1 0 0), (49, .sl 54 (List.map R54 y2)), (50, .int .i64 (y2.length : Int)), (51, .int .i64 i2)], [some ⟨26, [[.nils, .nils, .nils, .nils, .nils, .nils, .nils, .nils, .nils, .nils, .nils, .nils, .nils, .nils, .nils, .nils]]⟩, some ⟨26, [(List.map (osF 3 R3) out4.toList)]⟩, some ⟨26, [[.nils, .nils, .nils, .nils, .nils, .nils, .nils, .nils, .nils, .nils, .nils, .nils, .nils, .nils, .nils, .nils]]⟩]⟩) _ hl2 (Ent.sel [some 0, some 1, some 2] (sd 1 rfl rfl <| sd 2 rfl rfl <| sr 4 rfl (.ptr _ _ _ rfl) <| sr 6 rfl (.ptr _ _ _ rfl) <| sr 7 rfl (.ptr _ _ _ rfl) <| sd 49 rfl rfl <| sd 50 rfl rfl <| sd 51 rfl rfl <| sn) (.cons rfl (roZZ (by exact tZ_26.symm) rfl) <| .cons rfl (roNN tZ_26 D3) <| .cons rfl (roZZ (by exact tZ_26.symm) rfl) <| .nil) rfl rfl) (fun n2 s2 h => ?_)
     obtain ⟨out4, i2⟩ := s2
     replace h := t2i h
     refine t2T ?_
     unfold layout_Pack_L2 at h
     refine T_seq (T_reg ?_)
     refine R_q _ rfl (v_lss (ov rfl) (ov rfl)) ?_
     refine R_nil ?_
     refine T_seq ?_
     refine T_if h rfl (fun b52 h => ?_) (fun b52 h => ?_)
     ·
      refine T_skip ?_
      refine T_joinG (fun j => (.inr j)) (t1 fun out5 => ⟨[(1, .sl 3 (List.map R3 l)), (2, .rp [.int .i64 m.Version, .sl 43 (List.map R43 m.Params)] 0), (4, .ptr 0 1 0 0), (6, .ptr 1 1 0 0), (7, .ptr 2 1 0 0), (49, .sl 54 (List.map R54 y2)), (50, .int .i64 (y2.length : Int)), (51, .int .i64 i2)], [some ⟨26, [[.nils, .nils, .nils, .nils, .nils, .nils, .nils, .nils, .nils, .nils, .nils, .nils, .nils, .nils, .nils, .nils]]⟩, some ⟨26, [(List.map (osF 3 R3) out5.toList)]⟩, some ⟨26, [[.nils, .nils, .nils, .nils, .nils, .nils, .nils, .nils, .nils, .nils, .nils, .nils, .nils, .nils, .nils, .nils]]⟩]⟩) h (fun h => ?_) (fun j h => ?_)
      ·
       refine T_block ?_
       refine T_keep (kc 1 rfl <| kc 2 rfl <| kc 4 rfl <| kc 6 rfl <| kc 7 rfl <| kc 49 rfl <| kc 50 rfl <| kc 51 rfl <| kn) rfl ?_
       refine T_seq (T_reg ?_)
       refine R_q _ rfl (v_move (ov rfl)) ?_
       obtain ⟨x4, h_x4, h⟩ := bnd h
       refine R_q _ rfl (v_ixSG (ov rfl) (ov rfl) tL62 h_x4) ?_
       refine R_q _ rfl (v_loadA_r (ov rfl) tA54 rfl rfl) ?_
       refine R_w _ _ rfl (w_alloc (row := [_, _, _, _]) 3 rfl tZ54 rfl tZ_54) ?_
       refine R_q _ rfl (v_assign (ov rfl)) ?_
       refine R_w _ _ rfl (w_store (ov rfl) (ov rfl) (cells_agg tA54 rfl) rfl rfl rfl (Nat.le_of_ble_eq_true rfl) (cell1_all rfl) rfl) ?_
       refine R_nil ?_
       refine T_keep (kc 1 rfl <| kc 2 rfl <| kc 4 rfl <| kc 6 rfl <| kc 7 rfl <| kc 12 rfl <| kc 13 rfl <| kc 49 rfl <| kc 50 rfl <| kc 51 rfl <| kn) rfl ?_
       refine T_seq (T_reg ?_)
       refine R_q _ rfl (v_fieldR (ov rfl) tF24_1) ?_
       refine R_q _ rfl (v_loadS_r (ov rfl) tS22 rfl) ?_
       refine R_q _ rfl (v_fieldP (ov rfl) rfl rfl tF54_0) ?_
       refine R_q _ rfl (v_loadS (ov rfl) rfl rfl rfl tS3 rfl) ?_
       obtain ⟨x5, h_x5, h⟩ := bnd h
       refine R_q _ rfl (v_ixSG (ov rfl) (ov rfl) tL22 h_x5) ?_
       refine R_q _ rfl (v_loadA_r (ov rfl) tA43 rfl rfl) ?_
       obtain ⟨y3, h_y3, h⟩ := bnd h
       refine R_q _ rfl (v_call (ok_layout_numberOf h_y3) (.cons (ov rfl) (.aggB rfl) <| .nil)) ?_
       refine R_w _ _ rfl (w_alloc (row := [_, _, _, _]) 4 rfl tZ102 rfl tZ_102) ?_
       refine R_w _ _ rfl (w_store (ov rfl) (ov rfl) (cells_agg tA102 rfl) rfl rfl rfl (Nat.le_of_ble_eq_true rfl) (cell1_all rfl) rfl) ?_
       refine R_nil ?_
       refine T_seq ?_
       refine T_keep (kc 1 rfl <| kc 2 rfl <| kc 4 rfl <| kc 6 rfl <| kc 7 rfl <| kc 12 rfl <| kc 13 rfl <| kc 14 rfl <| kc 49 rfl <| kc 50 rfl <| kc 51 rfl <| kn) rfl ?_
       refine T_seq (T_draw (cw := md0) (by kernel_rfl) ?_)
       refine D_q0 0 _ rfl (by kernel_rfl) rfl rfl (v_move (ov rfl)) ?_
       refine D_q0 1 _ rfl (by kernel_rfl) rfl rfl (v_move (ov rfl)) ?_
       obtain ⟨x6, h_x6, h⟩ := bnd h
       refine D_q0 2 _ rfl (by kernel_rfl) rfl rfl (v_ixSG (ov rfl) (ov rfl) tL25 h_x6) ?_
       refine D_q0 3 _ rfl (by kernel_rfl) rfl rfl (v_loadS_r (ov rfl) tS3 rfl) ?_
       refine D_q0 4 _ rfl (by kernel_rfl) rfl rfl (v_fieldP (ov rfl) rfl rfl tF102_0) ?_
       refine D_q0 5 _ rfl (by kernel_rfl) rfl rfl (v_loadS (ov rfl) rfl rfl rfl tS3 rfl) ?_
       refine D_q0 6 _ rfl (by kernel_rfl) rfl rfl (v_fieldP (ov rfl) rfl rfl tF102_1) ?_
       refine D_q0 7 _ rfl (by kernel_rfl) rfl rfl (v_loadS (ov rfl) rfl rfl rfl tS3 rfl) ?_
       obtain ⟨y4, h_y4, h⟩ := bnd h
       refine D_q0 8 _ rfl (by kernel_rfl) rfl rfl (v_call (ok_layout_within h_y4) (.cons (ov rfl) (.b rfl) <| .cons (ov rfl) (.b rfl) <| .cons (ov rfl) (.b rfl) <| .nil)) ?_
       refine D_q0 9 _ rfl (by kernel_rfl) rfl rfl (v_not (ov rfl)) ?_
       refine D_done (by kernel_rfl) ?_
       refine T_keep (kc 1 rfl <| kc 2 rfl <| kc 4 rfl <| kc 6 rfl <| kc 7 rfl <| kc 12 rfl <| kc 13 rfl <| kc 14 rfl <| kc 49 rfl <| kc 50 rfl <| kc 51 rfl <| kc 72 rfl <| kn) rfl ?_
       refine T_if h rfl (fun b72 h => ?_) (fun b72 h => ?_)
       ·
        refine T_keep (kc 4 rfl <| kc 7 rfl <| kn) rfl ?_
        refine T_seq (T_reg ?_)
        refine R_q _ rfl (v_loadA (ov rfl) rfl rfl rfl tA26 rfl rfl) ?_
        refine R_w _ _ rfl (w_store (ov rfl) (ov rfl) (cells_agg tA26 rfl) rfl rfl rfl (Nat.le_of_ble_eq_true rfl) (cell1_all rfl) rfl) ?_
        refine R_q _ rfl (v_assign (ov rfl)) ?_
        refine R_nil ?_
        rw [lx h] at ho2
        replace h := ho2
        obtain rfl := rt (v := ((Vector.replicate 16 []), 9)) h
        refine T_ret (retq ?_ (.two (.agg rfl rfl rfl rfl tA26 rfl rfl (pwZ (m := 16) (f := C25) rfl rfl)) (.tmp rfl (Dat.view (.b rfl)))))
        rfl
       ·
        refine T_skip ?_
        refine T_keep (kc 1 rfl <| kc 2 rfl <| kc 4 rfl <| kc 6 rfl <| kc 7 rfl <| kc 12 rfl <| kc 13 rfl <| kc 14 rfl <| kc 49 rfl <| kc 50 rfl <| kc 51 rfl <| kn) rfl ?_
        refine T_seq (T_draw (cw := md0) (by kernel_rfl) ?_)
        refine D_q0 0 _ rfl (by kernel_rfl) rfl rfl (v_fieldP (ov rfl) rfl rfl tF102_2) ?_
        refine D_q0 1 _ rfl (by kernel_rfl) rfl rfl (v_loadS (ov rfl) rfl rfl rfl tS99 rfl) ?_
        refine D_q0 2 _ rfl (by kernel_rfl) rfl rfl (v_move (ov rfl)) ?_
        refine D_q0 3 _ rfl (by kernel_rfl) rfl rfl (v_move (ov rfl)) ?_
        obtain ⟨x7, h_x7, h⟩ := bnd h
        refine D_q0 4 _ rfl (by kernel_rfl) rfl rfl (v_ixSG (ov rfl) (ov rfl) tL25 h_x7) ?_
        refine D_q0 5 _ rfl (by kernel_rfl) rfl rfl (v_loadS_r (ov rfl) tS3 rfl) ?_
        obtain ⟨y5, h_y5, h⟩ := bnd h
        refine D_q0 6 _ rfl (by kernel_rfl) rfl rfl (v_callC (ov rfl) (((fok_layout_numberOf h_y3).1)).1 ((((fok_layout_numberOf h_y3).1)).2 _ _ h_y5) (.cons (ov rfl) (.b rfl) <| .nil)) ?_
        refine D_q0 7 _ rfl (by kernel_rfl) rfl rfl (v_fieldR (ov rfl) tF24_1) ?_
        refine D_q0 8 _ rfl (by kernel_rfl) rfl rfl (v_loadS_r (ov rfl) tS22 rfl) ?_
        refine D_q0 9 _ rfl (by kernel_rfl) rfl rfl (v_fieldP (ov rfl) rfl rfl tF54_0) ?_
        refine D_q0 10 _ rfl (by kernel_rfl) rfl rfl (v_loadS (ov rfl) rfl rfl rfl tS3 rfl) ?_
        obtain ⟨x8, h_x8, h⟩ := bnd h
        refine D_q0 11 _ rfl (by kernel_rfl) rfl rfl (v_ixSG (ov rfl) (ov rfl) tL22 h_x8) ?_
        refine D_q0 12 _ rfl (by kernel_rfl) rfl rfl (v_loadA_r (ov rfl) tA43 rfl rfl) ?_
        obtain ⟨y6, h_y6, h⟩ := bnd h
        refine D_q0 13 _ rfl (by kernel_rfl) rfl rfl (v_call (ok_layout_bitsOf h_y6) (.cons (ov rfl) (.aggB rfl) <| .nil)) ?_
        refine D_q0 14 _ rfl (by kernel_rfl) rfl rfl (v_assign (ov rfl)) ?_
        refine D_q0 15 _ rfl (by kernel_rfl) rfl rfl (v_assign (ov rfl)) ?_
        refine D_done (by kernel_rfl) ?_
        refine T_keep (kc 1 rfl <| kc 2 rfl <| kc 4 rfl <| kc 6 rfl <| kc 7 rfl <| kc 13 rfl <| kc 15 rfl <| kc 16 rfl <| kc 49 rfl <| kc 50 rfl <| kc 51 rfl <| kn) rfl ?_
        refine T_seq (T_reg ?_)
        refine R_q _ rfl (v_fieldP (ov rfl) rfl rfl tF54_3) ?_
        refine R_q _ rfl (v_loadS (ov rfl) rfl rfl rfl tS52 rfl) ?_
        refine R_q _ rfl (v_len (slv_sl (ov rfl) tZ_66) tL52 (len_map _ _)) ?_
        refine R_q _ rfl (v_move (ov rfl)) ?_
        refine R_nil ?_
        refine T_block ?_
        obtain ⟨r3, hl3, ho3⟩ := bnd h
        refine T_loopG _ (t3 fun out6 left i3 => ⟨[(1, .sl 3 (List.map R3 l)), (2, .rp [.int .i64 m.Version, .sl 43 (List.map R43 m.Params)] 0), (4, .ptr 0 1 0 0), (6, .ptr 1 1 0 0), (7, .ptr 2 1 0 0), (15, .int .i64 y5), (16, .int .i64 left), (49, .sl 54 (List.map R54 y2)), (50, .int .i64 (y2.length : Int)), (51, .int .i64 i2), (89, .sl 66 (List.map R66 x4.Places)), (90, .int .i64 (x4.Places.length : Int)), (91, .int .i64 i3)], [some ⟨26, [[.nils, .nils, .nils, .nils, .nils, .nils, .nils, .nils, .nils, .nils, .nils, .nils, .nils, .nils, .nils, .nils]]⟩, some ⟨26, [(List.map (osF 3 R3) out6.toList)]⟩, some ⟨26, [[.nils, .nils, .nils, .nils, .nils, .nils, .nils, .nils, .nils, .nils, .nils, .nils, .nils, .nils, .nils, .nils]]⟩]⟩) _ hl3 (Ent.sel [some 0, some 1, some 2] (sd 1 rfl rfl <| sd 2 rfl rfl <| sr 4 rfl (.ptr _ _ _ rfl) <| sr 6 rfl (.ptr _ _ _ rfl) <| sr 7 rfl (.ptr _ _ _ rfl) <| sd 15 rfl rfl <| sd 16 rfl rfl <| sd 49 rfl rfl <| sd 50 rfl rfl <| sd 51 rfl rfl <| sd 89 rfl rfl <| sd 90 rfl rfl <| sd 91 rfl rfl <| sn) (.cons rfl (roZZ (by exact tZ_26.symm) rfl) <| .cons rfl (roNN tZ_26 D3) <| .cons rfl (roZZ (by exact tZ_26.symm) rfl) <| .nil) rfl rfl) (fun n3 s3 h => ?_)
        obtain ⟨out6, left, i3⟩ := s3
        replace h := t3i h
        refine t3T ?_
        unfold layout_Pack_L3 at h
        refine T_seq (T_reg ?_)
        refine R_q _ rfl (v_lss (ov rfl) (ov rfl)) ?_
        refine R_nil ?_
        refine T_seq ?_
        refine T_if h rfl (fun b92 h => ?_) (fun b92 h => ?_)
        ·
         refine T_skip ?_
         refine T_seq ?_
         refine T_block ?_
         refine T_keep (kc 1 rfl <| kc 2 rfl <| kc 4 rfl <| kc 6 rfl <| kc 7 rfl <| kc 15 rfl <| kc 16 rfl <| kc 49 rfl <| kc 50 rfl <| kc 51 rfl <| kc 89 rfl <| kc 90 rfl <| kc 91 rfl <| kn) rfl ?_
         refine T_seq (T_reg ?_)
         obtain ⟨x9, h_x9, h⟩ := bnd h
         refine R_q _ rfl (v_ixSG (ov rfl) (ov rfl) tL52 h_x9) ?_
         refine R_q _ rfl (v_loadA_r (ov rfl) tA66 rfl rfl) ?_
         refine R_w _ _ rfl (w_alloc (row := [_, _, _, _]) 3 rfl tZ66 rfl tZ_66) ?_
         refine R_w _ _ rfl (w_store (ov rfl) (ov rfl) (cells_agg tA66 rfl) rfl rfl rfl (Nat.le_of_ble_eq_true rfl) (cell1_all rfl) rfl) ?_
         refine R_nil ?_
         refine T_keep (kc 1 rfl <| kc 2 rfl <| kc 4 rfl <| kc 6 rfl <| kc 7 rfl <| kc 15 rfl <| kc 16 rfl <| kc 18 rfl <| kc 49 rfl <| kc 50 rfl <| kc 51 rfl <| kc 89 rfl <| kc 90 rfl <| kc 91 rfl <| kn) rfl ?_
         refine T_seq (T_reg ?_)
         refine R_q _ rfl (v_move (ov rfl)) ?_
         refine R_q _ rfl (v_fieldP (ov rfl) rfl rfl tF66_3) ?_
         refine R_q _ rfl (v_loadS (ov rfl) rfl rfl rfl tS3 rfl) ?_
         refine R_q _ rfl (v_sub (ov rfl) (ov rfl) rfl) ?_
         refine R_q _ rfl (v_assign (ov rfl)) ?_
         refine R_nil ?_
         refine T_keep (kc 1 rfl <| kc 2 rfl <| kc 4 rfl <| kc 6 rfl <| kc 7 rfl <| kc 15 rfl <| kc 16 rfl <| kc 18 rfl <| kc 49 rfl <| kc 50 rfl <| kc 51 rfl <| kc 89 rfl <| kc 90 rfl <| kc 91 rfl <| kn) rfl ?_
         obtain ⟨l4, h_l4, h⟩ := bnd h
         refine T_ent (Ent.focusA (r := 1) rfl h_l4 D3) ?_
         refine T_draw (cw := md0) (by kernel_rfl) ?_
         refine D_q0 0 _ rfl (by kernel_rfl) rfl rfl (v_fieldP (ov rfl) rfl rfl tF66_0) ?_
         refine D_q0 1 _ rfl (by kernel_rfl) rfl rfl (v_loadS (ov rfl) rfl rfl rfl tS3 rfl) ?_
         obtain ⟨x10, h_x10, h⟩ := bnd h
         refine D_q0 2 _ rfl (by kernel_rfl) rfl rfl (v_ixAG (ov rfl) (ov rfl) tR26 rfl rfl h_x10) ?_
         refine D_q0 3 _ rfl (by kernel_rfl) rfl rfl (v_loadS (ov rfl) rfl rfl rfl tS25 (arSetG h_l4)) ?_
         refine D_q0 4 _ rfl (by kernel_rfl) rfl rfl (v_fieldP (ov rfl) rfl rfl tF66_1) ?_
         refine D_q0 5 _ rfl (by kernel_rfl) rfl rfl (v_loadS (ov rfl) rfl rfl rfl tS3 rfl) ?_
         refine D_q0 6 _ rfl (by kernel_rfl) rfl rfl (v_sub (ov rfl) (ov rfl) rfl) ?_
         obtain ⟨x11, h_x11, h⟩ := bnd h
         refine D_q0 7 _ rfl (by kernel_rfl) rfl rfl (v_ixOG (ov rfl) (ov rfl) tL25 rfl rfl h_x11) ?_
         refine D_q0 8 _ rfl (by kernel_rfl) rfl rfl (v_loadSR (ov rfl) rfl rfl h_x11 tS3 rfl) ?_
         refine D_q0 9 _ rfl (by kernel_rfl) rfl rfl (v_move (ov rfl)) ?_
         refine D_q0 10 _ rfl (by kernel_rfl) rfl rfl (v_move (ov rfl)) ?_
         obtain ⟨q, h_q, h⟩ := bnd h
         refine D_q0 11 _ rfl (by kernel_rfl) rfl rfl (v_shrG (ov rfl) (ov rfl) h_q) ?_
         refine D_q0 12 _ rfl (by kernel_rfl) rfl rfl (v_fieldP (ov rfl) rfl rfl tF66_3) ?_
         refine D_q0 13 _ rfl (by kernel_rfl) rfl rfl (v_loadS (ov rfl) rfl rfl rfl tS3 rfl) ?_
         obtain ⟨q2, h_q2, h⟩ := bnd h
         refine D_q0 14 _ rfl (by kernel_rfl) rfl rfl (v_shlG (ov rfl) (ov rfl) h_q2) ?_
         refine D_q0 15 _ rfl (by kernel_rfl) rfl rfl (v_sub (ov rfl) (ov rfl) rfl) ?_
         refine D_q0 16 _ rfl (by kernel_rfl) rfl rfl (v_and_ (ov rfl) (ov rfl)) ?_
         refine D_q0 17 _ rfl (by kernel_rfl) rfl rfl (v_fieldP (ov rfl) rfl rfl tF66_2) ?_
         refine D_q0 18 _ rfl (by kernel_rfl) rfl rfl (v_loadS (ov rfl) rfl rfl rfl tS3 rfl) ?_
         obtain ⟨q3, h_q3, h⟩ := bnd h
         refine D_q0 19 _ rfl (by kernel_rfl) rfl rfl (v_shlG (ov rfl) (ov rfl) h_q3) ?_
         refine D_q0 20 _ rfl (by kernel_rfl) rfl rfl (v_or_ (ov rfl) (ov rfl)) ?_
         obtain ⟨x12, h_x12, h⟩ := bnd h
         refine D_q0 21 _ rfl (by kernel_rfl) rfl rfl (v_ixOG (ov rfl) (ov rfl) tL25 rfl rfl h_x12) ?_
         refine D_one 22 _ _ rfl (by kernel_rfl) rfl rfl (fun h => by cases h) (fun h => by cases h) (w_storeR (u' := (bor .i64 x11 q3)) (ov rfl) (ov rfl) (cells_scal tS3) rfl rfl h_x12 rfl (cell1_all rfl) rfl) ?_
         refine D_done (by kernel_rfl) ?_
         refine T_ent (Ent.absorbA (r := 1) (q := 4) rfl h_l4 rfl ((List.length_set ..).trans rfl) rfl) ?_
         refine T_keep (kc 1 rfl <| kc 2 rfl <| kc 4 rfl <| kc 6 rfl <| kc 7 rfl <| kc 15 rfl <| kc 16 rfl <| kc 49 rfl <| kc 50 rfl <| kc 51 rfl <| kc 89 rfl <| kc 90 rfl <| kc 91 rfl <| kn) rfl ?_
         refine T_reg ?_
         refine R_q _ rfl (v_add (ov rfl) (ov rfl) rfl) ?_
         refine R_q _ rfl (v_move (ov rfl)) ?_
         refine R_nil ?_
         exact ⟨((vset out6 x9.Frame (l4.set (i64 (x9.Word - 3)).toNat (bor .i64 x11 q3))), (i64 (left - x9.Bits)), (i64 (i3 + 1))), h, Ent.sel [some 0, some 1, some 2] (sd 1 rfl rfl <| sd 2 rfl rfl <| sr 4 rfl (.ptr _ _ _ rfl) <| sr 6 rfl (.ptr _ _ _ rfl) <| sr 7 rfl (.ptr _ _ _ rfl) <| sd 15 rfl rfl <| sd 16 rfl rfl <| sd 49 rfl rfl <| sd 50 rfl rfl <| sd 51 rfl rfl <| sd 89 rfl rfl <| sd 90 rfl rfl <| sd 91 rfl rfl <| sn) (.cons rfl (roZZ (by exact tZ_26.symm) rfl) <| .cons rfl (roNN tZ_26 D3) <| .cons rfl (roZZ (by exact tZ_26.symm) rfl) <| .nil) rfl rfl⟩
        ·
         refine T_exit ?_
         rw [lx h] at ho3
         replace h := ho3
         exact ⟨out6, h, Ent.sel [some 0, some 1, some 2] (sd 1 rfl rfl <| sd 2 rfl rfl <| sr 4 rfl (.ptr _ _ _ rfl) <| sr 6 rfl (.ptr _ _ _ rfl) <| sr 7 rfl (.ptr _ _ _ rfl) <| sd 49 rfl rfl <| sd 50 rfl rfl <| sd 51 rfl rfl <| sn) (.cons rfl (roZZ (by exact tZ_26.symm) rfl) <| .cons rfl (roNN tZ_26 D3) <| .cons rfl (roZZ (by exact tZ_26.symm) rfl) <| .nil) rfl rfl⟩
      ·
       replace h := elr h
       obtain ⟨out5, rfl⟩ : ∃ x, x = j := ⟨_, rfl⟩
       replace h := t1i h
       refine t1T ?_
       refine T_reg ?_
       refine R_q _ rfl (v_add (ov rfl) (ov rfl) rfl) ?_
       refine R_q _ rfl (v_move (ov rfl)) ?_
       refine R_nil ?_
       exact ⟨(out5, (i64 (i2 + 1))), h, Ent.sel [some 0, some 1, some 2] (sd 1 rfl rfl <| sd 2 rfl rfl <| sr 4 rfl (.ptr _ _ _ rfl) <| sr 6 rfl (.ptr _ _ _ rfl) <| sr 7 rfl (.ptr _ _ _ rfl) <| sd 49 rfl rfl <| sd 50 rfl rfl <| sd 51 rfl rfl <| sn) (.cons rfl (roZZ (by exact tZ_26.symm) rfl) <| .cons rfl (roNN tZ_26 D3) <| .cons rfl (roZZ (by exact tZ_26.symm) rfl) <| .nil) rfl rfl⟩
     ·
      refine T_exit ?_
      rw [lx h] at ho2
      replace h := ho2
      exact ⟨out4, h, Ent.sel [some 0, some 1] (sr 4 rfl (.ptr _ _ _ rfl) <| sr 6 rfl (.ptr _ _ _ rfl) <| sn) (.cons rfl (roZZ (by exact tZ_26.symm) rfl) <| .cons rfl (roNN tZ_26 D3) <| .nil) rfl rfl⟩
    ·
     replace h := elr h
     obtain ⟨out3, rfl⟩ : ∃ x, x = j := ⟨_, rfl⟩
     replace h := t1i h
     refine t1T ?_
     refine T_seq (T_reg ?_)
     refine R_ent (Ent.meltA (r := 1) (f := C25) rfl tZ_26 (fun _ => rfl) D3) ?_
     refine R_q _ rfl (v_loadA (ov rfl) rfl rfl rfl tA26 arW arL) ?_
     refine R_w _ _ rfl (w_store (ov rfl) (ov rfl) (cells_agg tA26 arL) rfl rfl rfl (Nat.le_of_eq (by simp)) (cell1_all (arC fun _ => rfl)) (arWhole (by simp))) ?_
     refine R_q _ rfl (v_assign (ov rfl)) ?_
     refine R_nil ?_
     obtain rfl := rt (v := (out3, 0)) h
     refine T_ret (retq ?_ (.two (.agg rfl rfl rfl rfl tA26 arW arL (pwB (arD fun _ => rfl))) (.tmp rfl (Dat.view (.b rfl)))))
     rfl

theorem ok_law2_mapped  {r : Bool} (h : law2_mapped  = some r) :
  CSpec Try.prog gl0 17 [] (.bool r) := by
 unfold law2_mapped at h
 replace h := bnd0 h
 refine spec_of (by kernel_rfl) Try.func17 rfl rfl ?_
 intro w0 A
 refine T_seq (T_reg ?_)
 refine R_q _ rfl (v_assign (ov rfl)) ?_
 refine R_nil ?_
 refine T_keep (kn) rfl ?_
 refine T_seq (T_reg ?_)
 refine R_q _ rfl (v_build (ys := [_, _, _, _]) tPL109 tHA109 tZ109 (.cons (cvs (ov rfl) (cell1_b rfl)) <| .cons (cvs (ov rfl) (cell1_b rfl)) <| .cons (cvs (ov rfl) (cell1_b rfl)) <| .nil) rfl) ?_
 refine R_q (.sl 109 (List.map R109 ([(api_Part.mk 0 9 2 3)] : List api_Part))) rfl (v_lit tL40 (.cons (cva (ov rfl)) rfl (pwD rfl) <| .nil) rfl rfl) ?_
 refine R_q _ rfl (v_build (ys := [_, _, _, _, _, _, _, _]) tPL43 tHA43 tZ43 (.cons (cvs (ov rfl) (cell1_b rfl)) <| .cons (cvs (ov rfl) (cell1_b rfl)) <| .cons (cvs (ov rfl) (cell1_b rfl)) <| .cons (cvs (ov rfl) (cell1_b rfl)) <| .cons (cvs (ov rfl) (cell1_b rfl)) <| .cons (cvs (ov rfl) (cell1_b rfl)) <| .cons (cvs (ov rfl) (cell1_b rfl)) <| .nil) rfl) ?_
 refine R_q (.sl 43 (List.map R43 ([(api_Param.mk [97] 2 ([(api_Part.mk 0 9 2 3)] : List api_Part) 2 8 2 1 [])] : List api_Param))) rfl (v_lit tL22 (.cons (cva (ov rfl)) rfl (.cons (.b rfl) <| .cons (.b rfl) <| .cons (.b rfl) <| .cons (.b rfl) <| .cons (.b rfl) <| .cons (.b rfl) <| .cons (.b rfl) <| .cons (Dat.nils _) <| .nil) <| .nil) rfl rfl) ?_
 refine R_q _ rfl (v_build (ys := [_, _]) tPL24 tHA24 tZ24 (.cons (cvs (ov rfl) (cell1_b rfl)) <| .cons (cvs (ov rfl) (cell1_b rfl)) <| .nil) rfl) ?_
 refine R_w _ _ rfl (w_alloc (row := [_, _]) 0 rfl tZ24 rfl tZ_24) ?_
 refine R_w _ _ rfl (w_store (ov rfl) (ov rfl) (cells_agg tA24 rfl) rfl rfl rfl (Nat.le_of_ble_eq_true rfl) (cell1_all rfl) rfl) ?_
 refine R_nil ?_
 refine T_keep (kc 1 rfl <| kn) rfl ?_
 refine T_seq (T_reg ?_)
 refine R_q _ rfl (v_loadA (ov rfl) rfl rfl rfl tA24 rfl rfl) ?_
 refine R_q (.sl 3 (List.map R3 ([(-1), 3, 0, (-4)] : List Int))) rfl (v_lit tL25 (.cons (cvs (ov rfl) (cell1_b rfl)) rfl (.cons (.b rfl) .nil) <| .cons (cvs (ov rfl) (cell1_b rfl)) rfl (.cons (.b rfl) .nil) <| .cons (cvs (ov rfl) (cell1_b rfl)) rfl (.cons (.b rfl) .nil) <| .cons (cvs (ov rfl) (cell1_b rfl)) rfl (.cons (.b rfl) .nil) <| .nil) rfl rfl) ?_
 obtain ⟨y, h_y, h⟩ := bnd h
 refine R_q _ rfl (v_call (ok_layout_Pack h_y) (.cons (ov rfl) (.aggB rfl) <| .cons (ov rfl) (.b rfl) <| .nil)) ?_
 refine R_q _ rfl (v_move (ov rfl)) ?_
 refine R_q _ rfl (v_extract (ov rfl) rfl) ?_
 refine R_q _ rfl (v_extract (ov rfl) rfl) ?_
 refine R_w _ _ rfl (w_alloc (row := [_, _, _, _, _, _, _, _, _, _, _, _, _, _, _, _]) 1 rfl tZ26 rfl tZ_26) ?_
 refine R_w _ _ rfl (w_store (ov rfl) (ov rfl) (cells_agg tA26 arL) rfl rfl rfl (Nat.le_of_eq (by simp)) (cell1_all (arC fun _ => rfl)) (arWhole (by simp))) ?_
 refine R_q _ rfl (v_assign (ov rfl)) ?_
 refine R_nil ?_
 refine T_seq ?_
 refine T_keep (kc 1 rfl <| kc 2 rfl <| kc 3 rfl <| kn) rfl ?_
 refine T_seq (T_reg ?_)
 refine R_q _ rfl (v_move (ov rfl)) ?_
 refine R_q _ rfl (v_neq (ov rfl) (ov rfl)) ?_
 refine R_q _ rfl (v_move (ov rfl)) ?_
 obtain ⟨x, h_x, h⟩ := bnd h
 refine R_q _ rfl (.guarded ((!decide (y.2 = 0)) == false) rfl rfl rfl rfl fun h => v_ixAG (ov rfl) (ov rfl) tR26 rfl rfl (gdT h_x h)) ?_
 refine R_q _ rfl (.guarded ((!decide (y.2 = 0)) == false) rfl rfl rfl rfl fun h => v_loadS (ow rfl h) rfl rfl rfl tS25 (arG (gdT h_x h))) ?_
 refine R_q _ rfl (.guarded ((!decide (y.2 = 0)) == false) rfl rfl rfl rfl fun h => v_len (slv_sl (ow rfl h) tZ_3) tL25 (len_map _ _)) ?_
 refine R_q _ rfl (.guarded ((!decide (y.2 = 0)) == false) rfl rfl rfl rfl fun h => v_neq (ow rfl h) (ov rfl)) ?_
 refine R_q _ rfl (v_or (ov rfl) (fun hp => ow rfl (gF hp))) ?_
 refine R_q _ rfl (v_move (ov rfl)) ?_
 obtain ⟨x2, h_x2, h⟩ := bnd h
 refine R_q _ rfl (.guarded (((!decide (y.2 = 0)) || (!decide ((x.length : Int) = 58))) == false) rfl rfl rfl rfl fun h => v_ixAG (ov rfl) (ov rfl) tR26 rfl rfl (gdT h_x2 h)) ?_
 refine R_q _ rfl (.guarded (((!decide (y.2 = 0)) || (!decide ((x.length : Int) = 58))) == false) rfl rfl rfl rfl fun h => v_loadS (ow rfl h) rfl rfl rfl tS25 (arG (gdT h_x2 h))) ?_
 refine R_q _ rfl (.guarded (((!decide (y.2 = 0)) || (!decide ((x.length : Int) = 58))) == false) rfl rfl rfl rfl fun h => v_len (slv_sl (ow rfl h) tZ_3) tL25 (len_map _ _)) ?_
 refine R_q _ rfl (.guarded (((!decide (y.2 = 0)) || (!decide ((x.length : Int) = 58))) == false) rfl rfl rfl rfl fun h => v_neq (ow rfl h) (ov rfl)) ?_
 refine R_q _ rfl (v_or (ov rfl) (fun hp => ow rfl (gF hp))) ?_
 refine R_q _ rfl (v_move (ov rfl)) ?_
 obtain ⟨x3, h_x3, h⟩ := bnd h
 refine R_q _ rfl (.guarded ((((!decide (y.2 = 0)) || (!decide ((x.length : Int) = 58))) || (!decide ((x2.length : Int) = 58))) == false) rfl rfl rfl rfl fun h => v_ixAG (ov rfl) (ov rfl) tR26 rfl rfl (gdT h_x3 h)) ?_
 refine R_q _ rfl (.guarded ((((!decide (y.2 = 0)) || (!decide ((x.length : Int) = 58))) || (!decide ((x2.length : Int) = 58))) == false) rfl rfl rfl rfl fun h => v_loadS (ow rfl h) rfl rfl rfl tS25 (arG (gdT h_x3 h))) ?_
 refine R_q _ rfl (.guarded ((((!decide (y.2 = 0)) || (!decide ((x.length : Int) = 58))) || (!decide ((x2.length : Int) = 58))) == false) rfl rfl rfl rfl fun h => v_len (slv_sl (ow rfl h) tZ_3) tL25 (len_map _ _)) ?_
 refine R_q _ rfl (.guarded ((((!decide (y.2 = 0)) || (!decide ((x.length : Int) = 58))) || (!decide ((x2.length : Int) = 58))) == false) rfl rfl rfl rfl fun h => v_neq (ow rfl h) (ov rfl)) ?_
 refine R_q _ rfl (v_or (ov rfl) (fun hp => ow rfl (gF hp))) ?_
 refine R_q _ rfl (v_move (ov rfl)) ?_
 obtain ⟨x4, h_x4, h⟩ := bnd h
 refine R_q _ rfl (.guarded (((((!decide (y.2 = 0)) || (!decide ((x.length : Int) = 58))) || (!decide ((x2.length : Int) = 58))) || (!decide ((x3.length : Int) = 58))) == false) rfl rfl rfl rfl fun h => v_ixAG (ov rfl) (ov rfl) tR26 rfl rfl (gdT h_x4 h)) ?_
 refine R_q _ rfl (.guarded (((((!decide (y.2 = 0)) || (!decide ((x.length : Int) = 58))) || (!decide ((x2.length : Int) = 58))) || (!decide ((x3.length : Int) = 58))) == false) rfl rfl rfl rfl fun h => v_loadS (ow rfl h) rfl rfl rfl tS25 (arG (gdT h_x4 h))) ?_
 obtain ⟨x5, h_x5, h⟩ := bnd h
 refine R_q _ rfl (.guarded (((((!decide (y.2 = 0)) || (!decide ((x.length : Int) = 58))) || (!decide ((x2.length : Int) = 58))) || (!decide ((x3.length : Int) = 58))) == false) rfl rfl rfl rfl fun h => v_ixSG (ow rfl h) (ov rfl) tL25 (gdT h_x5 h)) ?_
 refine R_q _ rfl (.guarded (((((!decide (y.2 = 0)) || (!decide ((x.length : Int) = 58))) || (!decide ((x2.length : Int) = 58))) || (!decide ((x3.length : Int) = 58))) == false) rfl rfl rfl rfl fun h => v_loadS_r (ow rfl h) tS3 rfl) ?_
 refine R_q _ rfl (.guarded (((((!decide (y.2 = 0)) || (!decide ((x.length : Int) = 58))) || (!decide ((x2.length : Int) = 58))) || (!decide ((x3.length : Int) = 58))) == false) rfl rfl rfl rfl fun h => v_neq (ow rfl h) (ov rfl)) ?_
 refine R_q _ rfl (v_or (ov rfl) (fun hp => ow rfl (gF hp))) ?_
 refine R_q _ rfl (v_move (ov rfl)) ?_
 obtain ⟨x6, h_x6, h⟩ := bnd h
 refine R_q _ rfl (.guarded ((((((!decide (y.2 = 0)) || (!decide ((x.length : Int) = 58))) || (!decide ((x2.length : Int) = 58))) || (!decide ((x3.length : Int) = 58))) || (!decide (x5 = 28))) == false) rfl rfl rfl rfl fun h => v_ixAG (ov rfl) (ov rfl) tR26 rfl rfl (gdT h_x6 h)) ?_
 refine R_q _ rfl (.guarded ((((((!decide (y.2 = 0)) || (!decide ((x.length : Int) = 58))) || (!decide ((x2.length : Int) = 58))) || (!decide ((x3.length : Int) = 58))) || (!decide (x5 = 28))) == false) rfl rfl rfl rfl fun h => v_loadS (ow rfl h) rfl rfl rfl tS25 (arG (gdT h_x6 h))) ?_
 obtain ⟨x7, h_x7, h⟩ := bnd h
 refine R_q _ rfl (.guarded ((((((!decide (y.2 = 0)) || (!decide ((x.length : Int) = 58))) || (!decide ((x2.length : Int) = 58))) || (!decide ((x3.length : Int) = 58))) || (!decide (x5 = 28))) == false) rfl rfl rfl rfl fun h => v_ixSG (ow rfl h) (ov rfl) tL25 (gdT h_x7 h)) ?_
 refine R_q _ rfl (.guarded ((((((!decide (y.2 = 0)) || (!decide ((x.length : Int) = 58))) || (!decide ((x2.length : Int) = 58))) || (!decide ((x3.length : Int) = 58))) || (!decide (x5 = 28))) == false) rfl rfl rfl rfl fun h => v_loadS_r (ow rfl h) tS3 rfl) ?_
 refine R_q _ rfl (.guarded ((((((!decide (y.2 = 0)) || (!decide ((x.length : Int) = 58))) || (!decide ((x2.length : Int) = 58))) || (!decide ((x3.length : Int) = 58))) || (!decide (x5 = 28))) == false) rfl rfl rfl rfl fun h => v_neq (ow rfl h) (ov rfl)) ?_
 refine R_q _ rfl (v_or (ov rfl) (fun hp => ow rfl (gF hp))) ?_
 refine R_q _ rfl (v_move (ov rfl)) ?_
 obtain ⟨x8, h_x8, h⟩ := bnd h
 refine R_q _ rfl (.guarded (((((((!decide (y.2 = 0)) || (!decide ((x.length : Int) = 58))) || (!decide ((x2.length : Int) = 58))) || (!decide ((x3.length : Int) = 58))) || (!decide (x5 = 28))) || (!decide (x7 = 12))) == false) rfl rfl rfl rfl fun h => v_ixAG (ov rfl) (ov rfl) tR26 rfl rfl (gdT h_x8 h)) ?_
 refine R_q _ rfl (.guarded (((((((!decide (y.2 = 0)) || (!decide ((x.length : Int) = 58))) || (!decide ((x2.length : Int) = 58))) || (!decide ((x3.length : Int) = 58))) || (!decide (x5 = 28))) || (!decide (x7 = 12))) == false) rfl rfl rfl rfl fun h => v_loadS (ow rfl h) rfl rfl rfl tS25 (arG (gdT h_x8 h))) ?_
 obtain ⟨x9, h_x9, h⟩ := bnd h
 refine R_q _ rfl (.guarded (((((((!decide (y.2 = 0)) || (!decide ((x.length : Int) = 58))) || (!decide ((x2.length : Int) = 58))) || (!decide ((x3.length : Int) = 58))) || (!decide (x5 = 28))) || (!decide (x7 = 12))) == false) rfl rfl rfl rfl fun h => v_ixSG (ow rfl h) (ov rfl) tL25 (gdT h_x9 h)) ?_
 refine R_q _ rfl (.guarded (((((((!decide (y.2 = 0)) || (!decide ((x.length : Int) = 58))) || (!decide ((x2.length : Int) = 58))) || (!decide ((x3.length : Int) = 58))) || (!decide (x5 = 28))) || (!decide (x7 = 12))) == false) rfl rfl rfl rfl fun h => v_loadS_r (ow rfl h) tS3 rfl) ?_
 refine R_q _ rfl (.guarded (((((((!decide (y.2 = 0)) || (!decide ((x.length : Int) = 58))) || (!decide ((x2.length : Int) = 58))) || (!decide ((x3.length : Int) = 58))) || (!decide (x5 = 28))) || (!decide (x7 = 12))) == false) rfl rfl rfl rfl fun h => v_neq (ow rfl h) (ov rfl)) ?_
 refine R_q _ rfl (v_or (ov rfl) (fun hp => ow rfl (gF hp))) ?_
 refine R_q _ rfl (v_move (ov rfl)) ?_
 obtain ⟨x10, h_x10, h⟩ := bnd h
 refine R_q _ rfl (.guarded ((((((((!decide (y.2 = 0)) || (!decide ((x.length : Int) = 58))) || (!decide ((x2.length : Int) = 58))) || (!decide ((x3.length : Int) = 58))) || (!decide (x5 = 28))) || (!decide (x7 = 12))) || (!decide (x9 = 0))) == false) rfl rfl rfl rfl fun h => v_ixAG (ov rfl) (ov rfl) tR26 rfl rfl (gdT h_x10 h)) ?_
 refine R_q _ rfl (.guarded ((((((((!decide (y.2 = 0)) || (!decide ((x.length : Int) = 58))) || (!decide ((x2.length : Int) = 58))) || (!decide ((x3.length : Int) = 58))) || (!decide (x5 = 28))) || (!decide (x7 = 12))) || (!decide (x9 = 0))) == false) rfl rfl rfl rfl fun h => v_loadS (ow rfl h) rfl rfl rfl tS25 (arG (gdT h_x10 h))) ?_
 obtain ⟨x11, h_x11, h⟩ := bnd h
 refine R_q _ rfl (.guarded ((((((((!decide (y.2 = 0)) || (!decide ((x.length : Int) = 58))) || (!decide ((x2.length : Int) = 58))) || (!decide ((x3.length : Int) = 58))) || (!decide (x5 = 28))) || (!decide (x7 = 12))) || (!decide (x9 = 0))) == false) rfl rfl rfl rfl fun h => v_ixSG (ow rfl h) (ov rfl) tL25 (gdT h_x11 h)) ?_
 refine R_q _ rfl (.guarded ((((((((!decide (y.2 = 0)) || (!decide ((x.length : Int) = 58))) || (!decide ((x2.length : Int) = 58))) || (!decide ((x3.length : Int) = 58))) || (!decide (x5 = 28))) || (!decide (x7 = 12))) || (!decide (x9 = 0))) == false) rfl rfl rfl rfl fun h => v_loadS_r (ow rfl h) tS3 rfl) ?_
 refine R_q _ rfl (.guarded ((((((((!decide (y.2 = 0)) || (!decide ((x.length : Int) = 58))) || (!decide ((x2.length : Int) = 58))) || (!decide ((x3.length : Int) = 58))) || (!decide (x5 = 28))) || (!decide (x7 = 12))) || (!decide (x9 = 0))) == false) rfl rfl rfl rfl fun h => v_neq (ow rfl h) (ov rfl)) ?_
 refine R_q _ rfl (v_or (ov rfl) (fun hp => ow rfl (gF hp))) ?_
 refine R_q _ rfl (v_move (ov rfl)) ?_
 obtain ⟨x12, h_x12, h⟩ := bnd h
 refine R_q _ rfl (.guarded (((((((((!decide (y.2 = 0)) || (!decide ((x.length : Int) = 58))) || (!decide ((x2.length : Int) = 58))) || (!decide ((x3.length : Int) = 58))) || (!decide (x5 = 28))) || (!decide (x7 = 12))) || (!decide (x9 = 0))) || (!decide (x11 = 16))) == false) rfl rfl rfl rfl fun h => v_ixAG (ov rfl) (ov rfl) tR26 rfl rfl (gdT h_x12 h)) ?_
 refine R_q _ rfl (.guarded (((((((((!decide (y.2 = 0)) || (!decide ((x.length : Int) = 58))) || (!decide ((x2.length : Int) = 58))) || (!decide ((x3.length : Int) = 58))) || (!decide (x5 = 28))) || (!decide (x7 = 12))) || (!decide (x9 = 0))) || (!decide (x11 = 16))) == false) rfl rfl rfl rfl fun h => v_loadS (ow rfl h) rfl rfl rfl tS25 (arG (gdT h_x12 h))) ?_
 obtain ⟨x13, h_x13, h⟩ := bnd h
 refine R_q _ rfl (.guarded (((((((((!decide (y.2 = 0)) || (!decide ((x.length : Int) = 58))) || (!decide ((x2.length : Int) = 58))) || (!decide ((x3.length : Int) = 58))) || (!decide (x5 = 28))) || (!decide (x7 = 12))) || (!decide (x9 = 0))) || (!decide (x11 = 16))) == false) rfl rfl rfl rfl fun h => v_ixSG (ow rfl h) (ov rfl) tL25 (gdT h_x13 h)) ?_
 refine R_q _ rfl (.guarded (((((((((!decide (y.2 = 0)) || (!decide ((x.length : Int) = 58))) || (!decide ((x2.length : Int) = 58))) || (!decide ((x3.length : Int) = 58))) || (!decide (x5 = 28))) || (!decide (x7 = 12))) || (!decide (x9 = 0))) || (!decide (x11 = 16))) == false) rfl rfl rfl rfl fun h => v_loadS_r (ow rfl h) tS3 rfl) ?_
 refine R_q _ rfl (.guarded (((((((((!decide (y.2 = 0)) || (!decide ((x.length : Int) = 58))) || (!decide ((x2.length : Int) = 58))) || (!decide ((x3.length : Int) = 58))) || (!decide (x5 = 28))) || (!decide (x7 = 12))) || (!decide (x9 = 0))) || (!decide (x11 = 16))) == false) rfl rfl rfl rfl fun h => v_neq (ow rfl h) (ov rfl)) ?_
 refine R_q _ rfl (v_or (ov rfl) (fun hp => ow rfl (gF hp))) ?_
 refine R_nil ?_
 refine T_keep (kc 1 rfl <| kc 2 rfl <| kc 70 rfl <| kn) rfl ?_
 refine T_if h rfl (fun b70 h => ?_) (fun b70 h => ?_)
 ·
  refine T_keep (kn) rfl ?_
  refine T_seq (T_reg ?_)
  refine R_q _ rfl (v_assign (ov rfl)) ?_
  refine R_nil ?_
  obtain rfl := rt (v := false) h
  refine T_ret (retq ?_ (.one (.tmp rfl (Dat.view (.b rfl)))))
  rfl
 ·
  refine T_skip ?_
  refine T_keep (kc 1 rfl <| kc 2 rfl <| kn) rfl ?_
  refine T_seq (T_reg ?_)
  refine R_q _ rfl (v_loadA (ov rfl) rfl rfl rfl tA24 rfl rfl) ?_
  refine R_q _ rfl (v_loadA (ov rfl) rfl rfl rfl tA26 arW arL) ?_
  obtain ⟨y2, h_y2, h⟩ := bnd h
  refine R_q _ rfl (v_call (ok_layout_Unpack h_y2) (.cons (ov rfl) (.aggB rfl) <| .cons (ov rfl) (.aggB (arD fun _ => rfl)) <| .nil)) ?_
  refine R_q _ rfl (v_move (ov rfl)) ?_
  refine R_q _ rfl (v_extract (ov rfl) rfl) ?_
  refine R_q _ rfl (v_extract (ov rfl) rfl) ?_
  refine R_q _ rfl (v_assign (ov rfl)) ?_
  refine R_q _ rfl (v_assign (ov rfl)) ?_
  refine R_nil ?_
  refine T_keep (kc 3 rfl <| kc 4 rfl <| kn) rfl ?_
  refine T_seq (T_reg ?_)
  refine R_q _ rfl (v_move (ov rfl)) ?_
  refine R_q _ rfl (v_eql (ov rfl) (ov rfl)) ?_
  refine R_q _ rfl (v_move (ov rfl)) ?_
  refine R_q _ rfl (.guarded ((decide (y2.2 = 0)) == true) rfl rfl rfl rfl fun h => v_move (ov rfl)) ?_
  refine R_q _ rfl (.guarded ((decide (y2.2 = 0)) == true) rfl rfl rfl rfl fun h => v_len (slv_sl (ow rfl h) tZ_36) tL32 (len_map _ _)) ?_
  refine R_q _ rfl (.guarded ((decide (y2.2 = 0)) == true) rfl rfl rfl rfl fun h => v_eql (ow rfl h) (ov rfl)) ?_
  refine R_q _ rfl (v_and (ov rfl) (fun hp => ow rfl (gT hp))) ?_
  refine R_q _ rfl (v_move (ov rfl)) ?_
  refine R_q _ rfl (.guarded (((decide (y2.2 = 0)) && (decide ((y2.1.length : Int) = 4))) == true) rfl rfl rfl rfl fun h => v_move (ov rfl)) ?_
  obtain ⟨x14, h_x14, h⟩ := bnd h
  refine R_q _ rfl (.guarded (((decide (y2.2 = 0)) && (decide ((y2.1.length : Int) = 4))) == true) rfl rfl rfl rfl fun h => v_ixSG (ow rfl h) (ov rfl) tL32 (gdT h_x14 h)) ?_
  refine R_q _ rfl (.guarded (((decide (y2.2 = 0)) && (decide ((y2.1.length : Int) = 4))) == true) rfl rfl rfl rfl fun h => v_loadA_r (ow rfl h) tA36 rfl rfl) ?_
  refine R_q _ rfl (.guarded (((decide (y2.2 = 0)) && (decide ((y2.1.length : Int) = 4))) == true) rfl rfl rfl rfl fun h => v_build (ys := [_, _, _, _]) tPL36 tHA36 tZ36 (.cons (cvs (ov rfl) (cell1_b rfl)) <| .cons (cvs (ov rfl) (cell1_b rfl)) <| .cons (cvs (ov rfl) (cell1_b rfl)) <| .nil) rfl) ?_
  refine R_q _ rfl (.guarded (((decide (y2.2 = 0)) && (decide ((y2.1.length : Int) = 4))) == true) rfl rfl rfl rfl fun h => v_eqlS tFS36 (ow rfl h) (ow rfl h) (.aggB rfl) (.aggB rfl) rfl rfl) ?_
  refine R_q _ rfl (v_and (ov rfl) (fun hp => ow rfl (gT hp))) ?_
  refine R_q _ rfl (v_assign (ov rfl)) ?_
  refine R_nil ?_
  obtain rfl := rt (v := (((decide (y2.2 = 0)) && (decide ((y2.1.length : Int) = 4))) && (decide (x14.Param = 0) && (decide (x14.Index = 3) && (decide (x14.Value = (-4)) && ((x14.Good == true) && true)))))) h
  refine T_ret (retq ?_ (.one (.tmp rfl (Dat.view (.b rfl)))))
  rfl

theorem ok_layout_takenBy_o {l : List api_Cell} {r : (List (layout_bit × Int))} (h : layout_takenBy l = some r) :
  GSpec Try.prog gl0 79 [.sl 54 (List.map R54 l)] [] (.mref 0 1) [some ⟨119, [[.mcon (List.map (mrow FK122 FV3) r)]]⟩] := by
 unfold layout_takenBy at h
 replace h := bnd0 h
 refine gspec_of (by kernel_rfl) Try.func79 rfl rfl ?_
 intro w0 A W φ0
 refine T_seq (T_reg ?_)
 refine R_q _ rfl (v_assign (ov rfl)) ?_
 refine R_nil ?_
 refine T_keep (kc 0 rfl <| kn) rfl ?_
 refine T_seq (T_reg ?_)
 refine R_w _ _ rfl (w_makeMap 0 rfl tMp119) ?_
 refine R_q _ rfl (v_assign (ov rfl)) ?_
 refine R_nil ?_
 refine T_joinG id (t1 fun out => ⟨[(3, .mref 0 1)], [some ⟨119, [[.mcon (List.map (mrow FK122 FV3) out)]]⟩]⟩) h (fun h => ?_) (fun j h => ?_)
 ·
  refine T_keep (kc 0 rfl <| kc 3 rfl <| kn) rfl ?_
  refine T_seq (T_reg ?_)
  refine R_q _ rfl (v_move (ov rfl)) ?_
  refine R_q _ rfl (v_len (slv_sl (ov rfl) tZ_54) tL62 (len_map _ _)) ?_
  refine R_q _ rfl (v_move (ov rfl)) ?_
  refine R_nil ?_
  refine T_block ?_
  obtain ⟨r1, hl1, ho1⟩ := bndL h
  refine T_loopG _ (t2 fun out2 i => ⟨[(3, .mref 0 1), (7, .sl 54 (List.map R54 l)), (8, .int .i64 (l.length : Int)), (9, .int .i64 i)], [some ⟨119, [[.mcon (List.map (mrow FK122 FV3) out2)]]⟩]⟩) _ hl1 (Ent.sel [some 0] (sr 3 rfl (.mref _ rfl) <| sd 7 rfl rfl <| sd 8 rfl rfl <| sd 9 rfl rfl <| sn) (.cons rfl (roMap (fk := FK122) (fv := FV3) (m := ([] : List (layout_bit × Int))) tZ_119 (fun _ => rAgg (rld rfl)) (fun _ => .ren (.dat rfl))) <| .nil) rfl rfl) (fun n1 s1 h => ?_)
  obtain ⟨out2, i⟩ := s1
  replace h := t2i h
  refine t2T ?_
  unfold layout_takenBy_L1 at h
  refine T_seq (T_reg ?_)
  refine R_q _ rfl (v_lss (ov rfl) (ov rfl)) ?_
  refine R_nil ?_
  refine T_seq ?_
  refine T_if h rfl (fun b10 h => ?_) (fun b10 h => ?_)
  ·
   refine T_skip ?_
   refine T_seq ?_
   refine T_block ?_
   refine T_keep (kc 3 rfl <| kc 7 rfl <| kc 8 rfl <| kc 9 rfl <| kn) rfl ?_
   refine T_seq (T_reg ?_)
   refine R_q _ rfl (v_move (ov rfl)) ?_
   obtain ⟨x, h_x, h⟩ := bnd h
   refine R_q _ rfl (v_ixSG (ov rfl) (ov rfl) tL62 h_x) ?_
   refine R_q _ rfl (v_loadA_r (ov rfl) tA54 rfl rfl) ?_
   refine R_w _ _ rfl (w_alloc (row := [_, _, _, _]) 1 rfl tZ54 rfl tZ_54) ?_
   refine R_q _ rfl (v_assign (ov rfl)) ?_
   refine R_w _ _ rfl (w_store (ov rfl) (ov rfl) (cells_agg tA54 rfl) rfl rfl rfl (Nat.le_of_ble_eq_true rfl) (cell1_all rfl) rfl) ?_
   refine R_nil ?_
   refine T_keep (kc 3 rfl <| kc 4 rfl <| kc 5 rfl <| kc 7 rfl <| kc 8 rfl <| kc 9 rfl <| kn) rfl ?_
   refine T_reg ?_
   refine R_q _ rfl (v_move (ov rfl)) ?_
   refine R_q _ rfl (v_move (ov rfl)) ?_
   refine R_q _ rfl (v_fieldP (ov rfl) rfl rfl tF54_3) ?_
   refine R_q _ rfl (v_loadS (ov rfl) rfl rfl rfl tS52 rfl) ?_
   obtain ⟨y, h_y, h⟩ := bnd h
   refine R_w _ _ rfl (w_callG [0] (ok_layout_take h_y) (.cons (ov rfl) (.mref _ rfl) <| .cons (ov rfl) (.dat rfl) <| .cons (ov rfl) (.dat rfl) <| .nil) (.cons rfl (roMap (fk := FK122) (fv := FV3) (m := out2) tZ_119 (fun _ => rAgg (rld rfl)) (fun _ => .ren (.dat rfl))) <| .nil) rfl (.lent 0 (.inl rfl) rfl (roMap (fk := FK122) (fv := FV3) (m := y.2) tZ_119 (fun _ => rAgg (rld rfl)) (fun _ => .ren (.dat rfl))) <| .keep rfl rfl <| .nil) rfl rfl (.dat rfl)) ?_
   refine R_nil ?_
   refine T_keep (kc 3 rfl <| kc 7 rfl <| kc 8 rfl <| kc 9 rfl <| kn) rfl ?_
   refine T_reg ?_
   refine R_q _ rfl (v_add (ov rfl) (ov rfl) rfl) ?_
   refine R_q _ rfl (v_move (ov rfl)) ?_
   refine R_nil ?_
   exact ⟨(y.2, (i64 (i + 1))), h, Ent.sel [some 0] (sr 3 rfl (.mref _ rfl) <| sd 7 rfl rfl <| sd 8 rfl rfl <| sd 9 rfl rfl <| sn) (.cons rfl (roMap (fk := FK122) (fv := FV3) (m := y.2) tZ_119 (fun _ => rAgg (rld rfl)) (fun _ => .ren (.dat rfl))) <| .nil) rfl rfl⟩
  ·
   refine T_exit ?_
   rw [lx h] at ho1
   replace h := ho1
   exact ⟨out2, h, Ent.sel [some 0] (sr 3 rfl (.mref _ rfl) <| sn) (.cons rfl (roMap (fk := FK122) (fv := FV3) (m := out2) tZ_119 (fun _ => rAgg (rld rfl)) (fun _ => .ren (.dat rfl))) <| .nil) rfl rfl⟩
 ·
  obtain ⟨out, rfl⟩ : ∃ x, x = j := ⟨_, rfl⟩
  replace h := t1i h
  refine t1T ?_
  refine T_seq (T_reg ?_)
  refine R_q _ rfl (v_move (ov rfl)) ?_
  refine R_q _ rfl (v_assign (ov rfl)) ?_
  refine R_nil ?_
  obtain rfl := rt (v := out) h
  refine T_ret ?_
  exact retg [some 0] rfl (.cons (.tmp rfl) <| .nil) (.cons rfl (roMap (fk := FK122) (fv := FV3) (m := out) tZ_119 (fun _ => rAgg (rld rfl)) (fun _ => .ren (.dat rfl))) <| .nil) rfl rfl (.mref _ rfl)

theorem ok_layout_Owner {m : api_Map} {frame : Int} {word : Int} {bitNumber : Int} {r : api_Cell × Bool × Int} (h : layout_Owner m frame word bitNumber = some r) :
  CSpec Try.prog gl0 25 [.agg [.int .i64 m.Version, .sl 43 (List.map R43 m.Params)], .int .i64 frame, .int .i64 word, .int .i64 bitNumber] (.tuple [.agg [.int .i64 r.1.Param, .int .i64 r.1.Index, .int .i64 r.1.Frame, .sl 66 (List.map R66 r.1.Places)], .bool r.2.1, .int .i64 r.2.2]) := by
 unfold layout_Owner at h
 replace h := bnd0 h
 refine spec_of (by kernel_rfl) Try.func25 rfl rfl ?_
 intro w0 A
 refine T_seq (T_reg ?_)
 refine R_q _ rfl (v_boxD (cva (ov rfl)) rfl tZ_24 rfl) ?_
 refine R_w _ _ rfl (w_alloc (row := [_, _, _, _]) 0 rfl tZ54 rfl tZ_54) ?_
 refine R_q _ rfl (v_assign (ov rfl)) ?_
 refine R_q _ rfl (v_assign (ov rfl)) ?_
 refine R_nil ?_
 refine T_seq ?_
 refine T_keep (kc 1 rfl <| kc 2 rfl <| kc 3 rfl <| kc 4 rfl <| kc 8 rfl <| kn) rfl ?_
 refine T_seq (T_reg ?_)
 refine R_q _ rfl (v_loadA_r (ov rfl) tA24 rfl rfl) ?_
 obtain ⟨y, h_y, h⟩ := bnd h
 refine R_q _ rfl (v_call (ok_layout_check h_y) (.cons (ov rfl) (.aggB rfl) <| .nil)) ?_
 refine R_q _ rfl (v_move (ov rfl)) ?_
 refine R_q _ rfl (v_extract (ov rfl) rfl) ?_
 refine R_q _ rfl (v_extract (ov rfl) rfl) ?_
 refine R_q _ rfl (v_assign (ov rfl)) ?_
 refine R_q _ rfl (v_assign (ov rfl)) ?_
 refine R_nil ?_
 refine T_keep (kc 1 rfl <| kc 2 rfl <| kc 3 rfl <| kc 4 rfl <| kc 8 rfl <| kc 12 rfl <| kn) rfl ?_
 refine T_seq (T_reg ?_)
 refine R_q _ rfl (v_move (ov rfl)) ?_
 refine R_q _ rfl (v_neq (ov rfl) (ov rfl)) ?_
 refine R_nil ?_
 refine T_keep (kc 1 rfl <| kc 2 rfl <| kc 3 rfl <| kc 4 rfl <| kc 8 rfl <| kc 12 rfl <| kc 22 rfl <| kn) rfl ?_
 refine T_if h rfl (fun b22 h => ?_) (fun b22 h => ?_)
 ·
  refine T_keep (kc 8 rfl <| kc 12 rfl <| kn) rfl ?_
  refine T_seq (T_reg ?_)
  refine R_q _ rfl (v_build (ys := [_, _, _, _]) tPL54 tHA54 tZ54 (.nil) rfl) ?_
  refine R_q _ rfl (v_move (ov rfl)) ?_
  refine R_w _ _ rfl (w_store (ov rfl) (ov rfl) (cells_agg tA54 rfl) rfl rfl rfl (Nat.le_of_ble_eq_true rfl) (cell1_all rfl) rfl) ?_
  refine R_q _ rfl (v_assign (ov rfl)) ?_
  refine R_q _ rfl (v_assign (ov rfl)) ?_
  refine R_nil ?_
  obtain rfl := rt (v := ((api_Cell.mk 0 0 0 []), false, y.2)) h
  refine T_ret (retq ?_ (.three (.agg rfl rfl rfl rfl tA54 rfl rfl (.cons (Dat.view (.b rfl)) <| .cons (Dat.view (.b rfl)) <| .cons (Dat.view (.b rfl)) <| .cons (View.nils 66) <| .nil)) (.tmp rfl (Dat.view (.b rfl))) (.tmp rfl (Dat.view (.b rfl)))))
  rfl
 ·
  refine T_skip ?_
  refine T_seq ?_
  refine T_keep (kc 1 rfl <| kc 2 rfl <| kc 3 rfl <| kc 4 rfl <| kc 8 rfl <| kn) rfl ?_
  refine T_seq (T_reg ?_)
  refine R_q _ rfl (v_move (ov rfl)) ?_
  obtain ⟨y2, h_y2, h⟩ := bnd h
  refine R_q _ rfl (v_call (ok_layout_within h_y2) (.cons (ov rfl) (.b rfl) <| .cons (ov rfl) (.b rfl) <| .cons (ov rfl) (.b rfl) <| .nil)) ?_
  refine R_q _ rfl (v_not (ov rfl)) ?_
  refine R_q _ rfl (v_move (ov rfl)) ?_
  refine R_q _ rfl (.guarded ((!y2) == false) rfl rfl rfl rfl fun h => v_move (ov rfl)) ?_
  obtain ⟨y3, h_y3, h⟩ := bnd h
  refine R_q _ rfl (.guarded ((!y2) == false) rfl rfl rfl rfl fun h => v_call (ok_layout_within (gdT h_y3 h)) (.cons (ow rfl h) (.b rfl) <| .cons (ov rfl) (.b rfl) <| .cons (ov rfl) (.b rfl) <| .nil)) ?_
  refine R_q _ rfl (.guarded ((!y2) == false) rfl rfl rfl rfl fun h => v_not (ow rfl h)) ?_
  refine R_q _ rfl (v_or (ov rfl) (fun hp => ow rfl (gF hp))) ?_
  refine R_q _ rfl (v_move (ov rfl)) ?_
  refine R_q _ rfl (.guarded (((!y2) || (!y3)) == false) rfl rfl rfl rfl fun h => v_move (ov rfl)) ?_
  obtain ⟨y4, h_y4, h⟩ := bnd h
  refine R_q _ rfl (.guarded (((!y2) || (!y3)) == false) rfl rfl rfl rfl fun h => v_call (ok_layout_within (gdT h_y4 h)) (.cons (ow rfl h) (.b rfl) <| .cons (ov rfl) (.b rfl) <| .cons (ov rfl) (.b rfl) <| .nil)) ?_
  refine R_q _ rfl (.guarded (((!y2) || (!y3)) == false) rfl rfl rfl rfl fun h => v_not (ow rfl h)) ?_
  refine R_q _ rfl (v_or (ov rfl) (fun hp => ow rfl (gF hp))) ?_
  refine R_nil ?_
  refine T_keep (kc 1 rfl <| kc 2 rfl <| kc 3 rfl <| kc 4 rfl <| kc 8 rfl <| kc 37 rfl <| kn) rfl ?_
  refine T_if h rfl (fun b37 h => ?_) (fun b37 h => ?_)
  ·
   refine T_keep (kc 8 rfl <| kn) rfl ?_
   refine T_seq (T_reg ?_)
   refine R_q _ rfl (v_build (ys := [_, _, _, _]) tPL54 tHA54 tZ54 (.nil) rfl) ?_
   refine R_w _ _ rfl (w_store (ov rfl) (ov rfl) (cells_agg tA54 rfl) rfl rfl rfl (Nat.le_of_ble_eq_true rfl) (cell1_all rfl) rfl) ?_
   refine R_q _ rfl (v_assign (ov rfl)) ?_
   refine R_q _ rfl (v_assign (ov rfl)) ?_
   refine R_nil ?_
   obtain rfl := rt (v := ((api_Cell.mk 0 0 0 []), false, 9)) h
   refine T_ret (retq ?_ (.three (.agg rfl rfl rfl rfl tA54 rfl rfl (.cons (Dat.view (.b rfl)) <| .cons (Dat.view (.b rfl)) <| .cons (Dat.view (.b rfl)) <| .cons (View.nils 66) <| .nil)) (.tmp rfl (Dat.view (.b rfl))) (.tmp rfl (Dat.view (.b rfl)))))
   rfl
  ·
   refine T_skip ?_
   refine T_keep (kc 1 rfl <| kc 2 rfl <| kc 3 rfl <| kc 4 rfl <| kc 8 rfl <| kn) rfl ?_
   refine T_seq (T_reg ?_)
   refine R_q _ rfl (v_loadA_r (ov rfl) tA24 rfl rfl) ?_
   obtain ⟨y5, h_y5, h⟩ := bnd h
   refine R_q _ rfl (v_call (ok_layout_cells h_y5) (.cons (ov rfl) (.aggB rfl) <| .nil)) ?_
   refine R_q _ rfl (v_assign (ov rfl)) ?_
   refine R_nil ?_
   refine T_keep (kc 1 rfl <| kc 2 rfl <| kc 3 rfl <| kc 8 rfl <| kc 13 rfl <| kn) rfl ?_
   refine T_seq (T_reg ?_)
   refine R_q _ rfl (v_move (ov rfl)) ?_
   obtain ⟨y6, h_y6, h⟩ := bnd h
   refine R_w _ _ rfl (w_callG [] (ok_layout_takenBy_o h_y6) (.cons (ov rfl) (.dat rfl) <| .nil) (.nil) rfl (.keep rfl rfl <| .lent 0 (.inr ⟨Nat.le_of_ble_eq_true rfl, rfl⟩) rfl (roMap (fk := FK122) (fv := FV3) (m := y6) tZ_119 (fun _ => rAgg (rld rfl)) (fun _ => .ren (.dat rfl))) <| .nil) rfl rfl (.mref _ (.inr ⟨Nat.le_of_ble_eq_true rfl, rfl⟩))) ?_
   refine R_q _ rfl (v_move (ov rfl)) ?_
   refine R_q _ rfl (v_move (ov rfl)) ?_
   refine R_q _ rfl (v_move (ov rfl)) ?_
   refine R_q _ rfl (v_build (ys := [_, _, _]) tPL122 tHA122 tZ122 (.cons (cvs (ov rfl) (cell1_b rfl)) <| .cons (cvs (ov rfl) (cell1_b rfl)) <| .cons (cvs (ov rfl) (cell1_b rfl)) <| .nil) rfl) ?_
   obtain ⟨o, h_o, h⟩ := bnd h
   refine R_q _ rfl (v_lk2 (m := y6) (fk := FK122) (fv := FV3) (k := (layout_bit.mk frame word bitNumber)) (z0 := 0) (ov rfl) (ov rfl) tMp119 tKO122 rfl (fun _ => .aggB rfl) (zero_scal tZV3 rfl) (fun _ _ => rfl) h_o) ?_
   refine R_q _ rfl (v_move (ov rfl)) ?_
   refine R_q _ rfl (v_extract (ov rfl) rfl) ?_
   refine R_q _ rfl (v_extract (ov rfl) rfl) ?_
   refine R_q _ rfl (v_assign (ov rfl)) ?_
   refine R_q _ rfl (v_assign (ov rfl)) ?_
   refine R_nil ?_
   refine T_seq ?_
   refine T_keep (kc 8 rfl <| kc 13 rfl <| kc 14 rfl <| kc 15 rfl <| kn) rfl ?_
   refine T_seq (T_reg ?_)
   refine R_q _ rfl (v_move (ov rfl)) ?_
   refine R_q _ rfl (v_not (ov rfl)) ?_
   refine R_nil ?_
   refine T_keep (kc 8 rfl <| kc 13 rfl <| kc 14 rfl <| kc 52 rfl <| kn) rfl ?_
   refine T_if h rfl (fun b52 h => ?_) (fun b52 h => ?_)
   ·
    refine T_keep (kc 8 rfl <| kn) rfl ?_
    refine T_seq (T_reg ?_)
    refine R_q _ rfl (v_build (ys := [_, _, _, _]) tPL54 tHA54 tZ54 (.nil) rfl) ?_
    refine R_w _ _ rfl (w_store (ov rfl) (ov rfl) (cells_agg tA54 rfl) rfl rfl rfl (Nat.le_of_ble_eq_true rfl) (cell1_all rfl) rfl) ?_
    refine R_q _ rfl (v_assign (ov rfl)) ?_
    refine R_q _ rfl (v_assign (ov rfl)) ?_
    refine R_nil ?_
    obtain rfl := rt (v := ((api_Cell.mk 0 0 0 []), false, 0)) h
    refine T_ret (retq ?_ (.three (.agg rfl rfl rfl rfl tA54 rfl rfl (.cons (Dat.view (.b rfl)) <| .cons (Dat.view (.b rfl)) <| .cons (Dat.view (.b rfl)) <| .cons (View.nils 66) <| .nil)) (.tmp rfl (Dat.view (.b rfl))) (.tmp rfl (Dat.view (.b rfl)))))
    rfl
   ·
    refine T_skip ?_
    refine T_keep (kc 8 rfl <| kc 13 rfl <| kc 14 rfl <| kn) rfl ?_
    refine T_seq (T_reg ?_)
    refine R_q _ rfl (v_move (ov rfl)) ?_
    refine R_q _ rfl (v_move (ov rfl)) ?_
    obtain ⟨x, h_x, h⟩ := bnd h
    refine R_q _ rfl (v_ixSG (ov rfl) (ov rfl) tL62 h_x) ?_
    refine R_q _ rfl (v_loadA_r (ov rfl) tA54 rfl rfl) ?_
    refine R_w _ _ rfl (w_store (ov rfl) (ov rfl) (cells_agg tA54 rfl) rfl rfl rfl (Nat.le_of_ble_eq_true rfl) (cell1_all rfl) rfl) ?_
    refine R_q _ rfl (v_assign (ov rfl)) ?_
    refine R_q _ rfl (v_assign (ov rfl)) ?_
    refine R_nil ?_
    obtain rfl := rt (v := (x, true, 0)) h
    refine T_ret (retq ?_ (.three (.agg rfl rfl rfl rfl tA54 rfl rfl (pwB rfl)) (.tmp rfl (Dat.view (.b rfl))) (.tmp rfl (Dat.view (.b rfl)))))
    rfl

theorem ok_clone3_o {xs r : List Int} (h : clone xs = some r) :
  GSpec Try.prog gl0 26 [.sl 3 (List.map R3 xs)] [] (.own 0 r.length) [some ⟨3, List.map R3 r⟩] := by
 have h2 : app [] xs = some r := h
 refine gspec_of (by kernel_rfl) Try.func26 rfl rfl ?_
 intro w0 A W φ0
 refine T_seq (T_reg ?_)
 refine R_q _ rfl (v_assign (ov rfl)) ?_
 refine R_nil ?_
 refine T_seq (T_seq (T_reg ?_))
 refine R_q _ rfl (v_move (ov rfl)) ?_
 refine R_eqnil (ov rfl) tIsl25 rfl (fun b hb => ?_)
 refine R_nil ?_
 refine T_cond rfl (fun hb2 => ?_) (fun hb2 => ?_)
 ·
  obtain rfl : xs = [] := by simpa using hb hb2
  obtain rfl : r = [] := by simpa [app] using h2.symm
  refine T_seq (T_reg ?_)
  refine R_q _ rfl (v_assign (ov rfl)) ?_
  refine R_nil ?_
  refine T_ret ?_
  exact retg [none] rfl (.cons (.tmp rfl) .nil) (.row 3 .nil) rfl rfl (.row rfl)
 ·
  refine T_skip ?_
  refine T_seq (T_reg ?_)
  refine R_w _ _ rfl (w_litG (r := 0) (xs := []) (f := R3) rfl tL25 .nil rfl rfl rfl) ?_
  refine R_q _ rfl (v_move (ov rfl)) ?_
  refine R_w _ _ rfl (w_appendZ (ov rfl) (slv_sl (ov rfl) tZ_3) tL25 rfl rfl (fun _ => cell1_all rfl) rfl h2) ?_
  refine R_q _ rfl (v_assign (ov rfl)) ?_
  refine R_nil ?_
  refine T_ret ?_
  exact retg [some 0] rfl (.cons (.tmp rfl) .nil) (.cons rfl (roM D3) .nil) rfl rfl (.own _ rfl)

theorem ok_law2_LayoutOtherBitsDoNotMatter {m : api_Map} {l : Vector (List Int) 16} {frame : Int} {word : Int} {bit : Int} {r : Bool} (h : law2_LayoutOtherBitsDoNotMatter m l frame word bit = some r) :
  CSpec Try.prog gl0 6 [.agg [.int .i64 m.Version, .sl 43 (List.map R43 m.Params)], .agg (List.map C25 l.toList), .int .i64 frame, .int .i64 word, .int .i64 bit] (.bool r) := by
 unfold law2_LayoutOtherBitsDoNotMatter at h
 replace h := bnd0 h
 refine spec_of (by kernel_rfl) Try.func6 rfl rfl ?_
 intro w0 A
 refine T_seq (T_reg ?_)
 refine R_q _ rfl (v_boxD (cva (ov rfl)) rfl tZ_24 rfl) ?_
 refine R_q _ rfl (v_boxD (cva (ov rfl)) arL tZ_26 (arD fun _ => rfl)) ?_
 refine R_q _ rfl (v_assign (ov rfl)) ?_
 refine R_nil ?_
 refine T_keep (kc 2 rfl <| kc 3 rfl <| kc 4 rfl <| kc 5 rfl <| kc 6 rfl <| kn) rfl ?_
 refine T_seq (T_reg ?_)
 refine R_q _ rfl (v_loadA_r (ov rfl) tA24 rfl rfl) ?_
 refine R_q _ rfl (v_loadA_r (ov rfl) tA26 arW arL) ?_
 obtain ⟨y, h_y, h⟩ := bnd h
 refine R_q _ rfl (v_call (ok_layout_Unpack h_y) (.cons (ov rfl) (.aggB rfl) <| .cons (ov rfl) (.aggB (arD fun _ => rfl)) <| .nil)) ?_
 refine R_q _ rfl (v_move (ov rfl)) ?_
 refine R_q _ rfl (v_extract (ov rfl) rfl) ?_
 refine R_q _ rfl (v_extract (ov rfl) rfl) ?_
 refine R_q _ rfl (v_assign (ov rfl)) ?_
 refine R_q _ rfl (v_assign (ov rfl)) ?_
 refine R_nil ?_
 refine T_seq ?_
 refine T_keep (kc 2 rfl <| kc 3 rfl <| kc 4 rfl <| kc 5 rfl <| kc 6 rfl <| kc 11 rfl <| kc 12 rfl <| kn) rfl ?_
 refine T_seq (T_reg ?_)
 refine R_q _ rfl (v_move (ov rfl)) ?_
 refine R_q _ rfl (v_neq (ov rfl) (ov rfl)) ?_
 refine R_q _ rfl (v_move (ov rfl)) ?_
 refine R_q _ rfl (.guarded ((!decide (y.2 = 0)) == false) rfl rfl rfl rfl fun h => v_move (ov rfl)) ?_
 refine R_q _ rfl (.guarded ((!decide (y.2 = 0)) == false) rfl rfl rfl rfl fun h => v_lss (ow rfl h) (ov rfl)) ?_
 refine R_q _ rfl (v_or (ov rfl) (fun hp => ow rfl (gF hp))) ?_
 refine R_q _ rfl (v_move (ov rfl)) ?_
 refine R_q _ rfl (.guarded (((!decide (y.2 = 0)) || (decide (frame < 0))) == false) rfl rfl rfl rfl fun h => v_move (ov rfl)) ?_
 refine R_q _ rfl (.guarded (((!decide (y.2 = 0)) || (decide (frame < 0))) == false) rfl rfl rfl rfl fun h => v_gtr (ow rfl h) (ov rfl)) ?_
 refine R_q _ rfl (v_or (ov rfl) (fun hp => ow rfl (gF hp))) ?_
 refine R_q _ rfl (v_move (ov rfl)) ?_
 refine R_q _ rfl (.guarded ((((!decide (y.2 = 0)) || (decide (frame < 0))) || (decide (15 < frame))) == false) rfl rfl rfl rfl fun h => v_move (ov rfl)) ?_
 refine R_q _ rfl (.guarded ((((!decide (y.2 = 0)) || (decide (frame < 0))) || (decide (15 < frame))) == false) rfl rfl rfl rfl fun h => v_lss (ow rfl h) (ov rfl)) ?_
 refine R_q _ rfl (v_or (ov rfl) (fun hp => ow rfl (gF hp))) ?_
 refine R_q _ rfl (v_move (ov rfl)) ?_
 refine R_q _ rfl (.guarded (((((!decide (y.2 = 0)) || (decide (frame < 0))) || (decide (15 < frame))) || (decide (word < 4))) == false) rfl rfl rfl rfl fun h => v_move (ov rfl)) ?_
 refine R_q _ rfl (.guarded (((((!decide (y.2 = 0)) || (decide (frame < 0))) || (decide (15 < frame))) || (decide (word < 4))) == false) rfl rfl rfl rfl fun h => v_gtr (ow rfl h) (ov rfl)) ?_
 refine R_q _ rfl (v_or (ov rfl) (fun hp => ow rfl (gF hp))) ?_
 refine R_q _ rfl (v_move (ov rfl)) ?_
 refine R_q _ rfl (.guarded ((((((!decide (y.2 = 0)) || (decide (frame < 0))) || (decide (15 < frame))) || (decide (word < 4))) || (decide (60 < word))) == false) rfl rfl rfl rfl fun h => v_move (ov rfl)) ?_
 refine R_q _ rfl (.guarded ((((((!decide (y.2 = 0)) || (decide (frame < 0))) || (decide (15 < frame))) || (decide (word < 4))) || (decide (60 < word))) == false) rfl rfl rfl rfl fun h => v_lss (ow rfl h) (ov rfl)) ?_
 refine R_q _ rfl (v_or (ov rfl) (fun hp => ow rfl (gF hp))) ?_
 refine R_q _ rfl (v_move (ov rfl)) ?_
 refine R_q _ rfl (.guarded (((((((!decide (y.2 = 0)) || (decide (frame < 0))) || (decide (15 < frame))) || (decide (word < 4))) || (decide (60 < word))) || (decide (bit < 0))) == false) rfl rfl rfl rfl fun h => v_move (ov rfl)) ?_
 refine R_q _ rfl (.guarded (((((((!decide (y.2 = 0)) || (decide (frame < 0))) || (decide (15 < frame))) || (decide (word < 4))) || (decide (60 < word))) || (decide (bit < 0))) == false) rfl rfl rfl rfl fun h => v_gtr (ow rfl h) (ov rfl)) ?_
 refine R_q _ rfl (v_or (ov rfl) (fun hp => ow rfl (gF hp))) ?_
 refine R_nil ?_
 refine T_keep (kc 2 rfl <| kc 3 rfl <| kc 4 rfl <| kc 5 rfl <| kc 6 rfl <| kc 11 rfl <| kc 52 rfl <| kn) rfl ?_
 refine T_if h rfl (fun b52 h => ?_) (fun b52 h => ?_)
 ·
  refine T_keep (kn) rfl ?_
  refine T_seq (T_reg ?_)
  obtain ⟨y2, h_y2, h⟩ := bnd h
  refine R_q _ rfl (v_call (ok_law2_mapped h_y2) (.nil)) ?_
  refine R_q _ rfl (v_assign (ov rfl)) ?_
  refine R_nil ?_
  obtain rfl := rt (v := y2) h
  refine T_ret (retq ?_ (.one (.tmp rfl (Dat.view (.b rfl)))))
  rfl
 ·
  refine T_skip ?_
  refine T_keep (kc 2 rfl <| kc 3 rfl <| kc 4 rfl <| kc 5 rfl <| kc 6 rfl <| kc 11 rfl <| kn) rfl ?_
  refine T_seq (T_reg ?_)
  refine R_q _ rfl (v_loadA_r (ov rfl) tA24 rfl rfl) ?_
  refine R_q _ rfl (v_move (ov rfl)) ?_
  refine R_q _ rfl (v_move (ov rfl)) ?_
  refine R_q _ rfl (v_move (ov rfl)) ?_
  obtain ⟨y3, h_y3, h⟩ := bnd h
  refine R_q _ rfl (v_call (ok_layout_Owner h_y3) (.cons (ov rfl) (.aggB rfl) <| .cons (ov rfl) (.b rfl) <| .cons (ov rfl) (.b rfl) <| .cons (ov rfl) (.b rfl) <| .nil)) ?_
  refine R_q _ rfl (v_move (ov rfl)) ?_
  refine R_q _ rfl (v_extract (ov rfl) rfl) ?_
  refine R_q _ rfl (v_extract (ov rfl) rfl) ?_
  refine R_q _ rfl (v_extract (ov rfl) rfl) ?_
  refine R_w _ _ rfl (w_alloc (row := [_, _, _, _]) 0 rfl tZ54 rfl tZ_54) ?_
  refine R_w _ _ rfl (w_store (ov rfl) (ov rfl) (cells_agg tA54 rfl) rfl rfl rfl (Nat.le_of_ble_eq_true rfl) (cell1_all rfl) rfl) ?_
  refine R_q _ rfl (v_assign (ov rfl)) ?_
  refine R_q _ rfl (v_assign (ov rfl)) ?_
  refine R_nil ?_
  refine T_seq ?_
  refine T_keep (kc 2 rfl <| kc 3 rfl <| kc 4 rfl <| kc 5 rfl <| kc 6 rfl <| kc 11 rfl <| kc 12 rfl <| kc 13 rfl <| kc 14 rfl <| kn) rfl ?_
  refine T_seq (T_reg ?_)
  refine R_q _ rfl (v_move (ov rfl)) ?_
  refine R_q _ rfl (v_neq (ov rfl) (ov rfl)) ?_
  refine R_nil ?_
  refine T_keep (kc 2 rfl <| kc 3 rfl <| kc 4 rfl <| kc 5 rfl <| kc 6 rfl <| kc 11 rfl <| kc 13 rfl <| kc 14 rfl <| kc 64 rfl <| kn) rfl ?_
  refine T_if h rfl (fun b64 h => ?_) (fun b64 h => ?_)
  ·
   refine T_keep (kn) rfl ?_
   refine T_seq (T_reg ?_)
   refine R_q _ rfl (v_assign (ov rfl)) ?_
   refine R_nil ?_
   obtain rfl := rt (v := false) h
   refine T_ret (retq ?_ (.one (.tmp rfl (Dat.view (.b rfl)))))
   rfl
  ·
   refine T_skip ?_
   refine T_keep (kc 2 rfl <| kc 3 rfl <| kc 4 rfl <| kc 5 rfl <| kc 6 rfl <| kc 11 rfl <| kc 13 rfl <| kc 14 rfl <| kn) rfl ?_
   refine T_seq (T_reg ?_)
   refine R_q _ rfl (v_move (ov rfl)) ?_
   obtain ⟨x, h_x, h⟩ := bnd h
   refine R_q _ rfl (v_ixRG (ov rfl) (ov rfl) tR26 h_x) ?_
   refine R_q _ rfl (v_loadS_r (ov rfl) tS25 (arG h_x)) ?_
   obtain ⟨y4, h_y4, h⟩ := bnd h
   refine R_w _ _ rfl (w_callG [] (ok_clone3_o h_y4) (.cons (ov rfl) (.dat rfl) <| .nil) (.nil) rfl (.keep rfl rfl <| .lent 0 (.inr ⟨Nat.le_of_ble_eq_true rfl, rfl⟩) rfl (roM D3) <| .nil) rfl rfl (.own _ (.inr ⟨Nat.le_of_ble_eq_true rfl, rfl⟩))) ?_
   refine R_q _ rfl (v_assign (ov rfl)) ?_
   refine R_nil ?_
   refine T_keep (kc 2 rfl <| kc 3 rfl <| kc 4 rfl <| kc 5 rfl <| kc 6 rfl <| kc 11 rfl <| kc 13 rfl <| kc 14 rfl <| kc 15 rfl <| kn) rfl ?_
   refine T_seq (T_draw (cw := md0) (by kernel_rfl) ?_)
   refine D_q0 0 _ rfl (by kernel_rfl) rfl rfl (v_move (ov rfl)) ?_
   refine D_q0 1 _ rfl (by kernel_rfl) rfl rfl (v_move (ov rfl)) ?_
   refine D_q0 2 _ rfl (by kernel_rfl) rfl rfl (v_sub (ov rfl) (ov rfl) rfl) ?_
   obtain ⟨x2, h_x2, h⟩ := bnd h
   refine D_q0 3 _ rfl (by kernel_rfl) rfl rfl (v_ixOG (ov rfl) (ov rfl) tL25 rfl rfl h_x2) ?_
   refine D_q0 4 _ rfl (by kernel_rfl) rfl rfl (v_loadSR (ov rfl) rfl rfl h_x2 tS3 rfl) ?_
   refine D_q0 5 _ rfl (by kernel_rfl) rfl rfl (v_move (ov rfl)) ?_
   obtain ⟨q, h_q, h⟩ := bnd h
   refine D_q0 6 _ rfl (by kernel_rfl) rfl rfl (v_shlG (ov rfl) (ov rfl) h_q) ?_
   refine D_q0 7 _ rfl (by kernel_rfl) rfl rfl (v_xor_ (ov rfl) (ov rfl)) ?_
   obtain ⟨x3, h_x3, h⟩ := bnd h
   refine D_q0 8 _ rfl (by kernel_rfl) rfl rfl (v_ixOG (ov rfl) (ov rfl) tL25 rfl rfl h_x3) ?_
   refine D_one 9 _ _ rfl (by kernel_rfl) rfl rfl (fun h => by cases h) (fun h => by cases h) (w_storeR (u' := (bxor .i64 x2 q)) (ov rfl) (ov rfl) (cells_scal tS3) rfl rfl h_x3 rfl (cell1_all rfl) rfl) ?_
   refine D_done (by kernel_rfl) ?_
   refine T_keep (kc 2 rfl <| kc 5 rfl <| kc 6 rfl <| kc 11 rfl <| kc 13 rfl <| kc 14 rfl <| kc 15 rfl <| kn) rfl ?_
   refine T_seq (T_reg ?_)
   refine R_q _ rfl (v_loadA_r (ov rfl) tA26 arW arL) ?_
   refine R_w _ _ rfl (w_alloc (row := [_, _, _, _, _, _, _, _, _, _, _, _, _, _, _, _]) 2 rfl tZ26 rfl tZ_26) ?_
   refine R_w _ _ rfl (w_store (ov rfl) (ov rfl) (cells_agg tA26 arL) rfl rfl rfl (Nat.le_of_eq (by simp)) (cell1_all (arC fun _ => rfl)) (arWhole (by simp))) ?_
   refine R_nil ?_
   refine T_keep (kc 2 rfl <| kc 5 rfl <| kc 11 rfl <| kc 13 rfl <| kc 14 rfl <| kc 15 rfl <| kc 16 rfl <| kn) rfl ?_
   refine T_seq (T_reg ?_)
   refine R_q _ rfl (v_move (ov rfl)) ?_
   refine R_q _ rfl (v_move (ov rfl)) ?_
   obtain ⟨x4, h_x4, h⟩ := bnd h
   refine R_q _ rfl (v_ixAG (ov rfl) (ov rfl) tR26 rfl rfl h_x4) ?_
   refine R_ent (Ent.sel [some 0, none, some 2] (sd 2 rfl rfl <| sd 5 rfl rfl <| sd 11 rfl rfl <| sr 13 rfl (.ptr (r' := 0) _ _ _ rfl) <| sd 14 rfl rfl <| sr 15 rfl (frzM rfl rfl ((List.length_set ..).trans rfl) D3) <| sr 16 rfl (.ptr (r' := 2) _ _ _ rfl) <| sd 79 rfl rfl <| sr 80 rfl (frzM rfl rfl ((List.length_set ..).trans rfl) D3) <| sr 81 rfl (.ptr (r' := 2) _ _ _ rfl) <| sn) (.cons rfl (ro1 (by exact tZ_54.symm) (rld rfl)) <| .row 3 <| .cons rfl (ro1 (arL.trans tZ_26.symm) (rld (arD fun _ => rfl))) <| .nil) rfl rfl) ?_
   refine R_w _ _ rfl (w_store (ov rfl) (ov rfl) (cells_scal tS25) rfl rfl rfl (arB h_x4) (cell1_all rfl) (arS h_x4)) ?_
   refine R_nil ?_
   refine T_keep (kc 5 rfl <| kc 11 rfl <| kc 13 rfl <| kc 14 rfl <| kc 16 rfl <| kn) rfl ?_
   refine T_seq (T_reg ?_)
   refine R_q _ rfl (v_loadA_r (ov rfl) tA24 rfl rfl) ?_
   refine R_q _ rfl (v_loadA (ov rfl) rfl rfl rfl tA26 arW arL) ?_
   obtain ⟨y5, h_y5, h⟩ := bnd h
   refine R_q _ rfl (v_call (ok_layout_Unpack h_y5) (.cons (ov rfl) (.aggB rfl) <| .cons (ov rfl) (.aggB (arD fun _ => rfl)) <| .nil)) ?_
   refine R_q _ rfl (v_move (ov rfl)) ?_
   refine R_q _ rfl (v_extract (ov rfl) rfl) ?_
   refine R_q _ rfl (v_extract (ov rfl) rfl) ?_
   refine R_q _ rfl (v_assign (ov rfl)) ?_
   refine R_q _ rfl (v_assign (ov rfl)) ?_
   refine R_nil ?_
   refine T_seq ?_
   refine T_keep (kc 11 rfl <| kc 12 rfl <| kc 13 rfl <| kc 14 rfl <| kc 17 rfl <| kn) rfl ?_
   refine T_seq (T_reg ?_)
   refine R_q _ rfl (v_move (ov rfl)) ?_
   refine R_q _ rfl (v_neq (ov rfl) (ov rfl)) ?_
   refine R_q _ rfl (v_move (ov rfl)) ?_
   refine R_q _ rfl (.guarded ((!decide (y5.2 = 0)) == false) rfl rfl rfl rfl fun h => v_move (ov rfl)) ?_
   refine R_q _ rfl (.guarded ((!decide (y5.2 = 0)) == false) rfl rfl rfl rfl fun h => v_len (slv_sl (ow rfl h) tZ_36) tL32 (len_map _ _)) ?_
   refine R_q _ rfl (.guarded ((!decide (y5.2 = 0)) == false) rfl rfl rfl rfl fun h => v_move (ov rfl)) ?_
   refine R_q _ rfl (.guarded ((!decide (y5.2 = 0)) == false) rfl rfl rfl rfl fun h => v_len (slv_sl (ow rfl h) tZ_36) tL32 (len_map _ _)) ?_
   refine R_q _ rfl (.guarded ((!decide (y5.2 = 0)) == false) rfl rfl rfl rfl fun h => v_neq (ow rfl h) (ow rfl h)) ?_
   refine R_q _ rfl (v_or (ov rfl) (fun hp => ow rfl (gF hp))) ?_
   refine R_nil ?_
   refine T_keep (kc 11 rfl <| kc 13 rfl <| kc 14 rfl <| kc 17 rfl <| kc 96 rfl <| kn) rfl ?_
   refine T_if h rfl (fun b96 h => ?_) (fun b96 h => ?_)
   ·
    refine T_keep (kn) rfl ?_
    refine T_seq (T_reg ?_)
    refine R_q _ rfl (v_assign (ov rfl)) ?_
    refine R_nil ?_
    obtain rfl := rt (v := false) h
    refine T_ret (retq ?_ (.one (.tmp rfl (Dat.view (.b rfl)))))
    rfl
   ·
    refine T_skip ?_
    refine T_joinG (fun j => (.inr j)) (t0 ⟨[], []⟩) h (fun h => ?_) (fun j h => ?_)
    ·
     refine T_keep (kc 11 rfl <| kc 13 rfl <| kc 14 rfl <| kc 17 rfl <| kn) rfl ?_
     refine T_seq (T_reg ?_)
     refine R_q _ rfl (v_move (ov rfl)) ?_
     refine R_q _ rfl (v_len (slv_sl (ov rfl) tZ_36) tL32 (len_map _ _)) ?_
     refine R_q _ rfl (v_move (ov rfl)) ?_
     refine R_nil ?_
     refine T_block ?_
     obtain ⟨r1, hl1, ho1⟩ := bndL h
     refine T_loopG _ (t1 fun i => ⟨[(11, .sl 36 (List.map R36 y.1)), (13, .ptr 0 1 0 0), (14, .bool y3.2.1), (17, .sl 36 (List.map R36 y5.1)), (98, .int .i64 (y.1.length : Int)), (99, .int .i64 i)], [some ⟨54, [[.int .i64 y3.1.Param, .int .i64 y3.1.Index, .int .i64 y3.1.Frame, .sl 66 (List.map R66 y3.1.Places)]]⟩]⟩) _ hl1 (Ent.sel [some 0] (sd 11 rfl rfl <| sr 13 rfl (.ptr _ _ _ rfl) <| sd 14 rfl rfl <| sd 17 rfl rfl <| sd 98 rfl rfl <| sd 99 rfl rfl <| sn) (.cons rfl (ro1 (by exact tZ_54.symm) (rld rfl)) <| .nil) rfl rfl) (fun n1 s1 h => ?_)
     obtain ⟨i, rfl⟩ : ∃ x, x = s1 := ⟨_, rfl⟩
     replace h := t1i h
     refine t1T ?_
     unfold law2_LayoutOtherBitsDoNotMatter_L1 at h
     refine T_seq (T_reg ?_)
     refine R_q _ rfl (v_lss (ov rfl) (ov rfl)) ?_
     refine R_nil ?_
     refine T_seq ?_
     refine T_if h rfl (fun b100 h => ?_) (fun b100 h => ?_)
     ·
      refine T_skip ?_
      refine T_seq ?_
      refine T_block ?_
      refine T_keep (kc 11 rfl <| kc 13 rfl <| kc 14 rfl <| kc 17 rfl <| kc 98 rfl <| kc 99 rfl <| kn) rfl ?_
      refine T_seq (T_reg ?_)
      refine R_q _ rfl (v_move (ov rfl)) ?_
      refine R_q _ rfl (v_assign (ov rfl)) ?_
      refine R_nil ?_
      refine T_keep (kc 11 rfl <| kc 13 rfl <| kc 14 rfl <| kc 17 rfl <| kc 18 rfl <| kc 98 rfl <| kc 99 rfl <| kn) rfl ?_
      refine T_seq (T_draw (cw := md0) (by kernel_rfl) ?_)
      refine D_q0 0 _ rfl (by kernel_rfl) rfl rfl (v_move (ov rfl)) ?_
      refine D_q0 1 _ rfl (by kernel_rfl) rfl rfl (v_move (ov rfl)) ?_
      obtain ⟨x5, h_x5, h⟩ := bnd h
      refine D_q0 2 _ rfl (by kernel_rfl) rfl rfl (v_ixSG (ov rfl) (ov rfl) tL32 h_x5) ?_
      refine D_q0 3 _ rfl (by kernel_rfl) rfl rfl (v_loadA_r (ov rfl) tA36 rfl rfl) ?_
      refine D_q0 4 _ rfl (by kernel_rfl) rfl rfl (v_move (ov rfl)) ?_
      refine D_q0 5 _ rfl (by kernel_rfl) rfl rfl (v_move (ov rfl)) ?_
      obtain ⟨x6, h_x6, h⟩ := bnd h
      refine D_q0 6 _ rfl (by kernel_rfl) rfl rfl (v_ixSG (ov rfl) (ov rfl) tL32 h_x6) ?_
      refine D_q0 7 _ rfl (by kernel_rfl) rfl rfl (v_loadA_r (ov rfl) tA36 rfl rfl) ?_
      refine D_q0 8 _ rfl (by kernel_rfl) rfl rfl (v_eqlS tFS36 (ov rfl) (ov rfl) (.aggB rfl) (.aggB rfl) rfl rfl) ?_
      refine D_q0 9 _ rfl (by kernel_rfl) rfl rfl (v_assign (ov rfl)) ?_
      refine D_done (by kernel_rfl) ?_
      refine T_keep (kc 11 rfl <| kc 13 rfl <| kc 14 rfl <| kc 17 rfl <| kc 18 rfl <| kc 19 rfl <| kc 98 rfl <| kc 99 rfl <| kn) rfl ?_
      refine T_seq (T_draw (cw := md0) (by kernel_rfl) ?_)
      refine D_q0 0 _ rfl (by kernel_rfl) rfl rfl (v_move (ov rfl)) ?_
      refine D_q0 1 _ rfl (by kernel_rfl) rfl rfl (v_move (ov rfl)) ?_
      refine D_q0 2 _ rfl (by kernel_rfl) rfl rfl (.guarded (y3.2.1 == true) rfl rfl rfl rfl fun h => v_move (ov rfl)) ?_
      refine D_q0 3 _ rfl (by kernel_rfl) rfl rfl (.guarded (y3.2.1 == true) rfl rfl rfl rfl fun h => v_move (ov rfl)) ?_
      obtain ⟨x7, h_x7, h⟩ := bnd h
      refine D_q0 4 _ rfl (by kernel_rfl) rfl rfl (.guarded (y3.2.1 == true) rfl rfl rfl rfl fun h => v_ixSG (ow rfl h) (ow rfl h) tL32 (gdT h_x7 h)) ?_
      refine D_q0 5 _ rfl (by kernel_rfl) rfl rfl (.guarded (y3.2.1 == true) rfl rfl rfl rfl fun h => v_fieldR (ow rfl h) tF36_0) ?_
      refine D_q0 6 _ rfl (by kernel_rfl) rfl rfl (.guarded (y3.2.1 == true) rfl rfl rfl rfl fun h => v_loadS_r (ow rfl h) tS3 rfl) ?_
      refine D_q0 7 _ rfl (by kernel_rfl) rfl rfl (.guarded (y3.2.1 == true) rfl rfl rfl rfl fun h => v_fieldP (ov rfl) rfl rfl tF54_0) ?_
      refine D_q0 8 _ rfl (by kernel_rfl) rfl rfl (.guarded (y3.2.1 == true) rfl rfl rfl rfl fun h => v_loadS (ow rfl h) rfl rfl rfl tS3 rfl) ?_
      refine D_q0 9 _ rfl (by kernel_rfl) rfl rfl (.guarded (y3.2.1 == true) rfl rfl rfl rfl fun h => v_eql (ow rfl h) (ow rfl h)) ?_
      refine D_q0 10 _ rfl (by kernel_rfl) rfl rfl (v_and (ov rfl) (fun hp => ow rfl (gT hp))) ?_
      refine D_q0 11 _ rfl (by kernel_rfl) rfl rfl (v_move (ov rfl)) ?_
      refine D_q0 12 _ rfl (by kernel_rfl) rfl rfl (.guarded ((y3.2.1 && (decide (x7.Param = y3.1.Param))) == true) rfl rfl rfl rfl fun h => v_move (ov rfl)) ?_
      refine D_q0 13 _ rfl (by kernel_rfl) rfl rfl (.guarded ((y3.2.1 && (decide (x7.Param = y3.1.Param))) == true) rfl rfl rfl rfl fun h => v_move (ov rfl)) ?_
      obtain ⟨x8, h_x8, h⟩ := bnd h
      refine D_q0 14 _ rfl (by kernel_rfl) rfl rfl (.guarded ((y3.2.1 && (decide (x7.Param = y3.1.Param))) == true) rfl rfl rfl rfl fun h => v_ixSG (ow rfl h) (ow rfl h) tL32 (gdT h_x8 h)) ?_
      refine D_q0 15 _ rfl (by kernel_rfl) rfl rfl (.guarded ((y3.2.1 && (decide (x7.Param = y3.1.Param))) == true) rfl rfl rfl rfl fun h => v_fieldR (ow rfl h) tF36_1) ?_
      refine D_q0 16 _ rfl (by kernel_rfl) rfl rfl (.guarded ((y3.2.1 && (decide (x7.Param = y3.1.Param))) == true) rfl rfl rfl rfl fun h => v_loadS_r (ow rfl h) tS3 rfl) ?_
      refine D_q0 17 _ rfl (by kernel_rfl) rfl rfl (.guarded ((y3.2.1 && (decide (x7.Param = y3.1.Param))) == true) rfl rfl rfl rfl fun h => v_fieldP (ov rfl) rfl rfl tF54_1) ?_
      refine D_q0 18 _ rfl (by kernel_rfl) rfl rfl (.guarded ((y3.2.1 && (decide (x7.Param = y3.1.Param))) == true) rfl rfl rfl rfl fun h => v_loadS (ow rfl h) rfl rfl rfl tS3 rfl) ?_
      refine D_q0 19 _ rfl (by kernel_rfl) rfl rfl (.guarded ((y3.2.1 && (decide (x7.Param = y3.1.Param))) == true) rfl rfl rfl rfl fun h => v_eql (ow rfl h) (ow rfl h)) ?_
      refine D_q0 20 _ rfl (by kernel_rfl) rfl rfl (v_and (ov rfl) (fun hp => ow rfl (gT hp))) ?_
      refine D_q0 21 _ rfl (by kernel_rfl) rfl rfl (v_assign (ov rfl)) ?_
      refine D_done (by kernel_rfl) ?_
      refine T_keep (kc 11 rfl <| kc 13 rfl <| kc 14 rfl <| kc 17 rfl <| kc 18 rfl <| kc 19 rfl <| kc 20 rfl <| kc 98 rfl <| kc 99 rfl <| kn) rfl ?_
      refine T_seq (T_reg ?_)
      refine R_q _ rfl (v_move (ov rfl)) ?_
      refine R_q _ rfl (v_not (ov rfl)) ?_
      refine R_q _ rfl (v_move (ov rfl)) ?_
      refine R_q _ rfl (.guarded ((!(decide (x5.Param = x6.Param) && (decide (x5.Index = x6.Index) && (decide (x5.Value = x6.Value) && ((x5.Good == x6.Good) && true))))) == true) rfl rfl rfl rfl fun h => v_move (ov rfl)) ?_
      refine R_q _ rfl (.guarded ((!(decide (x5.Param = x6.Param) && (decide (x5.Index = x6.Index) && (decide (x5.Value = x6.Value) && ((x5.Good == x6.Good) && true))))) == true) rfl rfl rfl rfl fun h => v_not (ow rfl h)) ?_
      refine R_q _ rfl (v_and (ov rfl) (fun hp => ow rfl (gT hp))) ?_
      refine R_q _ rfl (v_move (ov rfl)) ?_
      refine R_q _ rfl (.guarded (((!(decide (x5.Param = x6.Param) && (decide (x5.Index = x6.Index) && (decide (x5.Value = x6.Value) && ((x5.Good == x6.Good) && true))))) && (!((y3.2.1 && (decide (x7.Param = y3.1.Param))) && (decide (x8.Index = y3.1.Index))))) == false) rfl rfl rfl rfl fun h => v_move (ov rfl)) ?_
      refine R_q _ rfl (.guarded (((!(decide (x5.Param = x6.Param) && (decide (x5.Index = x6.Index) && (decide (x5.Value = x6.Value) && ((x5.Good == x6.Good) && true))))) && (!((y3.2.1 && (decide (x7.Param = y3.1.Param))) && (decide (x8.Index = y3.1.Index))))) == false) rfl rfl rfl rfl fun h => v_move (ow rfl h)) ?_
      refine R_q _ rfl (.guarded2 ((((!(decide (x5.Param = x6.Param) && (decide (x5.Index = x6.Index) && (decide (x5.Value = x6.Value) && ((x5.Good == x6.Good) && true))))) && (!((y3.2.1 && (decide (x7.Param = y3.1.Param))) && (decide (x8.Index = y3.1.Index))))) == false) && ((decide (x5.Param = x6.Param) && (decide (x5.Index = x6.Index) && (decide (x5.Value = x6.Value) && ((x5.Good == x6.Good) && true)))) == true)) rfl rfl rfl rfl fun h => v_move (ov rfl)) ?_
      refine R_q _ rfl (.guarded (((!(decide (x5.Param = x6.Param) && (decide (x5.Index = x6.Index) && (decide (x5.Value = x6.Value) && ((x5.Good == x6.Good) && true))))) && (!((y3.2.1 && (decide (x7.Param = y3.1.Param))) && (decide (x8.Index = y3.1.Index))))) == false) rfl rfl rfl rfl fun h => v_and (ow rfl h) (fun hp => ow rfl (gA h (gT hp)))) ?_
      refine R_q _ rfl (.guarded (((!(decide (x5.Param = x6.Param) && (decide (x5.Index = x6.Index) && (decide (x5.Value = x6.Value) && ((x5.Good == x6.Good) && true))))) && (!((y3.2.1 && (decide (x7.Param = y3.1.Param))) && (decide (x8.Index = y3.1.Index))))) == false) rfl rfl rfl rfl fun h => v_move (ow rfl h)) ?_
      refine R_q _ rfl (.guarded2 ((((!(decide (x5.Param = x6.Param) && (decide (x5.Index = x6.Index) && (decide (x5.Value = x6.Value) && ((x5.Good == x6.Good) && true))))) && (!((y3.2.1 && (decide (x7.Param = y3.1.Param))) && (decide (x8.Index = y3.1.Index))))) == false) && (((decide (x5.Param = x6.Param) && (decide (x5.Index = x6.Index) && (decide (x5.Value = x6.Value) && ((x5.Good == x6.Good) && true)))) && ((y3.2.1 && (decide (x7.Param = y3.1.Param))) && (decide (x8.Index = y3.1.Index)))) == true)) rfl rfl rfl rfl fun h => v_move (ov rfl)) ?_
      refine R_q _ rfl (.guarded2 ((((!(decide (x5.Param = x6.Param) && (decide (x5.Index = x6.Index) && (decide (x5.Value = x6.Value) && ((x5.Good == x6.Good) && true))))) && (!((y3.2.1 && (decide (x7.Param = y3.1.Param))) && (decide (x8.Index = y3.1.Index))))) == false) && (((decide (x5.Param = x6.Param) && (decide (x5.Index = x6.Index) && (decide (x5.Value = x6.Value) && ((x5.Good == x6.Good) && true)))) && ((y3.2.1 && (decide (x7.Param = y3.1.Param))) && (decide (x8.Index = y3.1.Index)))) == true)) rfl rfl rfl rfl fun h => v_move (ov rfl)) ?_
      obtain ⟨x9, h_x9, h⟩ := bnd h
      refine R_q _ rfl (.guarded2 ((((!(decide (x5.Param = x6.Param) && (decide (x5.Index = x6.Index) && (decide (x5.Value = x6.Value) && ((x5.Good == x6.Good) && true))))) && (!((y3.2.1 && (decide (x7.Param = y3.1.Param))) && (decide (x8.Index = y3.1.Index))))) == false) && (((decide (x5.Param = x6.Param) && (decide (x5.Index = x6.Index) && (decide (x5.Value = x6.Value) && ((x5.Good == x6.Good) && true)))) && ((y3.2.1 && (decide (x7.Param = y3.1.Param))) && (decide (x8.Index = y3.1.Index)))) == true)) rfl rfl rfl rfl fun h => v_ixSG (ow rfl h) (ow rfl h) tL32 (gdT h_x9 h)) ?_
      refine R_q _ rfl (.guarded2 ((((!(decide (x5.Param = x6.Param) && (decide (x5.Index = x6.Index) && (decide (x5.Value = x6.Value) && ((x5.Good == x6.Good) && true))))) && (!((y3.2.1 && (decide (x7.Param = y3.1.Param))) && (decide (x8.Index = y3.1.Index))))) == false) && (((decide (x5.Param = x6.Param) && (decide (x5.Index = x6.Index) && (decide (x5.Value = x6.Value) && ((x5.Good == x6.Good) && true)))) && ((y3.2.1 && (decide (x7.Param = y3.1.Param))) && (decide (x8.Index = y3.1.Index)))) == true)) rfl rfl rfl rfl fun h => v_fieldR (ow rfl h) tF36_3) ?_
      refine R_q _ rfl (.guarded2 ((((!(decide (x5.Param = x6.Param) && (decide (x5.Index = x6.Index) && (decide (x5.Value = x6.Value) && ((x5.Good == x6.Good) && true))))) && (!((y3.2.1 && (decide (x7.Param = y3.1.Param))) && (decide (x8.Index = y3.1.Index))))) == false) && (((decide (x5.Param = x6.Param) && (decide (x5.Index = x6.Index) && (decide (x5.Value = x6.Value) && ((x5.Good == x6.Good) && true)))) && ((y3.2.1 && (decide (x7.Param = y3.1.Param))) && (decide (x8.Index = y3.1.Index)))) == true)) rfl rfl rfl rfl fun h => v_loadS_r (ow rfl h) tS4 rfl) ?_
      refine R_q _ rfl (.guarded (((!(decide (x5.Param = x6.Param) && (decide (x5.Index = x6.Index) && (decide (x5.Value = x6.Value) && ((x5.Good == x6.Good) && true))))) && (!((y3.2.1 && (decide (x7.Param = y3.1.Param))) && (decide (x8.Index = y3.1.Index))))) == false) rfl rfl rfl rfl fun h => v_and (ow rfl h) (fun hp => ow rfl (gA h (gT hp)))) ?_
      refine R_q _ rfl (v_or (ov rfl) (fun hp => ow rfl (gF hp))) ?_
      refine R_nil ?_
      refine T_keep (kc 11 rfl <| kc 13 rfl <| kc 14 rfl <| kc 17 rfl <| kc 98 rfl <| kc 99 rfl <| kc 150 rfl <| kn) rfl ?_
      refine T_if h rfl (fun b150 h => ?_) (fun b150 h => ?_)
      ·
       refine T_keep (kn) rfl ?_
       refine T_seq (T_reg ?_)
       refine R_q _ rfl (v_assign (ov rfl)) ?_
       refine R_nil ?_
       rw [lx h] at ho1
       replace h := ho1
       obtain rfl := rt (v := false) h
       refine T_ret (retq ?_ (.one (.tmp rfl (Dat.view (.b rfl)))))
       rfl
      ·
       refine T_skip ?_
       refine T_keep (kc 11 rfl <| kc 13 rfl <| kc 14 rfl <| kc 17 rfl <| kc 98 rfl <| kc 99 rfl <| kn) rfl ?_
       refine T_reg ?_
       refine R_q _ rfl (v_add (ov rfl) (ov rfl) rfl) ?_
       refine R_q _ rfl (v_move (ov rfl)) ?_
       refine R_nil ?_
       exact ⟨(i64 (i + 1)), h, Ent.sel [some 0] (sd 11 rfl rfl <| sr 13 rfl (.ptr _ _ _ rfl) <| sd 14 rfl rfl <| sd 17 rfl rfl <| sd 98 rfl rfl <| sd 99 rfl rfl <| sn) (.cons rfl (ro1 (by exact tZ_54.symm) (rld rfl)) <| .nil) rfl rfl⟩
     ·
      refine T_exit ?_
      rw [lx h] at ho1
      replace h := ho1
      exact ⟨(), h, Ent.sel [] (sn) (.nil) rfl rfl⟩
    ·
     replace h := elr h
     cases j
     replace h := t0i h
     refine t0T ?_
     refine T_seq (T_reg ?_)
     obtain ⟨y6, h_y6, h⟩ := bnd h
     refine R_q _ rfl (v_call (ok_law2_mapped h_y6) (.nil)) ?_
     refine R_q _ rfl (v_assign (ov rfl)) ?_
     refine R_nil ?_
     obtain rfl := rt (v := y6) h
     refine T_ret (retq ?_ (.one (.tmp rfl (Dat.view (.b rfl)))))
     rfl
end Go.Proofs.Ytncoekfjpkfcdaa
