/- A text of the proof: a verified executor of the program form, or the contracts of the functions that the law reaches. -/
import Derived.Test.YtciaeohnkfnamaaDoorOkFab
set_option linter.all false
namespace Go.Proofs.YtciaeohnkfnamaaDoor
open Go Go.Vx
set_option maxRecDepth 10000
set_option maxHeartbeats 1000000
set_option linter.unusedVariables false
theorem ok_frame_Odd {w : Int} {r : Bool} (h : frame_Odd w = some r) :
  CSpec Tryd.prog gl0 135 [.int .u16 w] (.bool r) := by
 unfold frame_Odd at h
 replace h := bnd0 h
 refine spec_of (by kernel_rfl) Tryd.func135 rfl rfl ?_
 intro w0 A
 refine T_seq (T_reg ?_)
 refine R_q _ rfl (v_assign (ov rfl)) ?_
 refine R_nil ?_
 refine T_seq (T_reg ?_)
 refine R_q _ rfl (v_move (ov rfl)) ?_
 obtain ⟨y, h_y, h⟩ := bnd h
 refine R_q _ rfl (v_call (ok_frame_odd h_y) (.cons (ov rfl) (.b rfl) <| .nil)) ?_
 refine R_q _ rfl (v_assign (ov rfl)) ?_
 refine R_nil ?_
 obtain rfl := rt (v := y) h
 refine T_ret (retq ?_ (.one (.tmp rfl (Dat.view (.b rfl)))))
 rfl

theorem ok_salvage_rightAlone {w : Int} {i : Int} {number : Int} {r : Bool} (h : salvage_rightAlone w i number = some r) :
  CSpec Tryd.prog gl0 110 [.int .u16 w, .int .i64 i, .int .i64 number] (.bool r) := by
 unfold salvage_rightAlone at h
 replace h := bnd0 h
 refine spec_of (by kernel_rfl) Tryd.func110 rfl rfl ?_
 intro w0 A
 refine T_seq (T_reg ?_)
 refine R_q _ rfl (v_assign (ov rfl)) ?_
 refine R_nil ?_
 refine T_keep (kc 0 rfl <| kc 1 rfl <| kc 2 rfl <| kn) rfl ?_
 refine T_seq (T_reg ?_)
 refine R_q _ rfl (v_move (ov rfl)) ?_
 refine R_q _ rfl (v_and_ (ov rfl) (ov rfl)) ?_
 refine R_q _ rfl (v_conv (ov rfl) tI36 tI3 rfl) ?_
 refine R_q _ rfl (v_assign (ov rfl)) ?_
 refine R_nil ?_
 refine T_seq ?_
 refine T_keep (kc 0 rfl <| kc 1 rfl <| kc 2 rfl <| kc 7 rfl <| kn) rfl ?_
 refine T_seq (T_reg ?_)
 refine R_q _ rfl (v_move (ov rfl)) ?_
 refine R_nil ?_
 refine T_block ?_
 refine T_keep (kc 0 rfl <| kc 2 rfl <| kc 7 rfl <| kc 13 rfl <| kn) rfl ?_
 refine T_seq (T_reg ?_)
 refine R_q _ rfl (v_eql (ov rfl) (ov rfl)) ?_
 refine R_q _ rfl (v_assign (ov rfl)) ?_
 refine R_nil ?_
 refine T_keep (kc 0 rfl <| kc 2 rfl <| kc 7 rfl <| kc 13 rfl <| kc 14 rfl <| kn) rfl ?_
 refine T_if h rfl (fun b14 h => ?_) (fun b14 h => ?_)
 ·
  refine T_keep (kc 0 rfl <| kc 2 rfl <| kn) rfl ?_
  refine T_seq (T_reg ?_)
  refine R_q _ rfl (v_move (ov rfl)) ?_
  obtain ⟨y, h_y, h⟩ := bnd h
  refine R_q _ rfl (v_call (ok_frame_Sync h_y) (.cons (ov rfl) (.b rfl) <| .nil)) ?_
  refine R_q _ rfl (v_move (ov rfl)) ?_
  refine R_q _ rfl (v_extract (ov rfl) rfl) ?_
  refine R_q _ rfl (v_extract (ov rfl) rfl) ?_
  refine R_q _ rfl (v_assign (ov rfl)) ?_
  refine R_q _ rfl (v_assign (ov rfl)) ?_
  refine R_nil ?_
  refine T_keep (kc 0 rfl <| kc 8 rfl <| kn) rfl ?_
  refine T_seq (T_reg ?_)
  refine R_q _ rfl (v_move (ov rfl)) ?_
  refine R_q _ rfl (v_move (ov rfl)) ?_
  refine R_q _ rfl (v_conv (ov rfl) tI3 tI36 rfl) ?_
  refine R_q _ rfl (v_eql (ov rfl) (ov rfl)) ?_
  refine R_q _ rfl (v_assign (ov rfl)) ?_
  refine R_nil ?_
  obtain rfl := rt (v := (decide (w = (u16 y.1)))) h
  refine T_ret (retq ?_ (.one (.tmp rfl (Dat.view (.b rfl)))))
  rfl
 ·
  refine T_keep (kc 0 rfl <| kc 2 rfl <| kc 7 rfl <| kc 13 rfl <| kn) rfl ?_
  refine T_seq (T_reg ?_)
  refine R_q _ rfl (v_eql (ov rfl) (ov rfl)) ?_
  refine R_q _ rfl (v_assign (ov rfl)) ?_
  refine R_nil ?_
  refine T_keep (kc 0 rfl <| kc 2 rfl <| kc 7 rfl <| kc 13 rfl <| kc 25 rfl <| kn) rfl ?_
  refine T_if h rfl (fun b25 h => ?_) (fun b25 h => ?_)
  ·
   refine T_keep (kc 0 rfl <| kc 2 rfl <| kc 7 rfl <| kn) rfl ?_
   refine T_seq (T_reg ?_)
   refine R_q _ rfl (v_move (ov rfl)) ?_
   obtain ⟨y2, h_y2, h⟩ := bnd h
   refine R_q _ rfl (v_call (ok_frame_Odd h_y2) (.cons (ov rfl) (.b rfl) <| .nil)) ?_
   refine R_q _ rfl (v_move (ov rfl)) ?_
   refine R_q _ rfl (.guarded (y2 == true) rfl rfl rfl rfl fun h => v_move (ov rfl)) ?_
   refine R_q _ rfl (.guarded (y2 == true) rfl rfl rfl rfl fun h => v_move (ov rfl)) ?_
   refine R_q _ rfl (.guarded (y2 == true) rfl rfl rfl rfl fun h => v_and_ (ow rfl h) (ov rfl)) ?_
   refine R_q _ rfl (.guarded (y2 == true) rfl rfl rfl rfl fun h => v_eql (ow rfl h) (ow rfl h)) ?_
   refine R_q _ rfl (v_and (ov rfl) (fun hp => ow rfl (gT hp))) ?_
   refine R_q _ rfl (v_assign (ov rfl)) ?_
   refine R_nil ?_
   obtain rfl := rt (v := (y2 && (decide ((i64 (band .u16 w 2047)) = (band .i64 number 2047))))) h
   refine T_ret (retq ?_ (.one (.tmp rfl (Dat.view (.b rfl)))))
   rfl
  ·
   refine T_keep (kc 0 rfl <| kc 2 rfl <| kc 7 rfl <| kc 13 rfl <| kn) rfl ?_
   refine T_seq (T_reg ?_)
   refine R_q _ rfl (v_eql (ov rfl) (ov rfl)) ?_
   refine R_q _ rfl (v_assign (ov rfl)) ?_
   refine R_nil ?_
   refine T_keep (kc 0 rfl <| kc 2 rfl <| kc 7 rfl <| kc 35 rfl <| kn) rfl ?_
   refine T_if h rfl (fun b35 h => ?_) (fun b35 h => ?_)
   ·
    refine T_keep (kc 0 rfl <| kc 2 rfl <| kc 7 rfl <| kn) rfl ?_
    refine T_seq (T_reg ?_)
    refine R_q _ rfl (v_move (ov rfl)) ?_
    obtain ⟨y3, h_y3, h⟩ := bnd h
    refine R_q _ rfl (v_call (ok_frame_Odd h_y3) (.cons (ov rfl) (.b rfl) <| .nil)) ?_
    refine R_q _ rfl (v_move (ov rfl)) ?_
    refine R_q _ rfl (.guarded (y3 == true) rfl rfl rfl rfl fun h => v_move (ov rfl)) ?_
    refine R_q _ rfl (.guarded (y3 == true) rfl rfl rfl rfl fun h => v_move (ov rfl)) ?_
    obtain ⟨q, h_q, h⟩ := bnd h
    refine R_q _ rfl (.guarded (y3 == true) rfl rfl rfl rfl fun h => v_shrG (ow rfl h) (ov rfl) (gdT h_q h)) ?_
    refine R_q _ rfl (.guarded (y3 == true) rfl rfl rfl rfl fun h => v_eql (ow rfl h) (ow rfl h)) ?_
    refine R_q _ rfl (v_and (ov rfl) (fun hp => ow rfl (gT hp))) ?_
    refine R_q _ rfl (v_assign (ov rfl)) ?_
    refine R_nil ?_
    obtain rfl := rt (v := (y3 && (decide ((i64 (band .u16 w 2047)) = q)))) h
    refine T_ret (retq ?_ (.one (.tmp rfl (Dat.view (.b rfl)))))
    rfl
   ·
    refine T_skip ?_
    refine T_keep (kc 0 rfl <| kn) rfl ?_
    refine T_seq (T_reg ?_)
    refine R_q _ rfl (v_move (ov rfl)) ?_
    obtain ⟨y4, h_y4, h⟩ := bnd h
    refine R_q _ rfl (v_call (ok_frame_Odd h_y4) (.cons (ov rfl) (.b rfl) <| .nil)) ?_
    refine R_q _ rfl (v_assign (ov rfl)) ?_
    refine R_nil ?_
    obtain rfl := rt (v := y4) h
    refine T_ret (retq ?_ (.one (.tmp rfl (Dat.view (.b rfl)))))
    rfl

theorem ok_slices_IndexFunc_int_int {s : List Int} {f : Int → Option Bool} {r : Int} {f_f : FuncId} {f_c : List AV} (f_d : f_c.all datB = true) (f_h : ∀ (z0 : Int) z, f z0 = some z → CSpec Tryd.prog gl0 f_f ([.int .i64 z0] ++ f_c) (.bool z)) (h : slices_IndexFunc_int_int s f = some r) :
  CSpec Tryd.prog gl0 161 [.sl 3 (List.map R3 s), .fn f_f f_c] (.int .i64 r) := by
 unfold slices_IndexFunc_int_int at h
 replace h := bnd0 h
 refine spec_of (by kernel_rfl) Tryd.func161 rfl rfl ?_
 intro w0 A
 refine T_seq (T_reg ?_)
 refine R_q _ rfl (v_assign (ov rfl)) ?_
 refine R_nil ?_
 refine T_joinG (fun j => (.inr j)) (t0 ⟨[], []⟩) h (fun h => ?_) (fun j h => ?_)
 ·
  refine T_keep (kc 0 rfl <| kc 1 rfl <| kn) rfl ?_
  refine T_seq (T_reg ?_)
  refine R_q _ rfl (v_move (ov rfl)) ?_
  refine R_q _ rfl (v_len (slv_sl (ov rfl) tZ_3) tL26 (len_map _ _)) ?_
  refine R_q _ rfl (v_move (ov rfl)) ?_
  refine R_nil ?_
  refine T_block ?_
  obtain ⟨r1, hl1, ho1⟩ := bndL h
  refine T_loopG _ (t1 fun i => ⟨[(0, .sl 3 (List.map R3 s)), (1, .fn f_f f_c), (7, .int .i64 (s.length : Int)), (8, .int .i64 i)], []⟩) _ hl1 (Ent.sel [] (sd 0 rfl rfl <| sr 1 rfl (rFn (rld f_d)) <| sd 7 rfl rfl <| sd 8 rfl rfl <| sn) (.nil) rfl rfl) (fun n1 s1 h => ?_)
  obtain ⟨i, rfl⟩ : ∃ x, x = s1 := ⟨_, rfl⟩
  replace h := t1i h
  refine t1T ?_
  unfold slices_IndexFunc_int_int_L1 at h
  refine T_seq (T_reg ?_)
  refine R_q _ rfl (v_lss (ov rfl) (ov rfl)) ?_
  refine R_nil ?_
  refine T_seq ?_
  refine T_if h rfl (fun b9 h => ?_) (fun b9 h => ?_)
  ·
   refine T_skip ?_
   refine T_seq ?_
   refine T_block ?_
   refine T_keep (kc 0 rfl <| kc 1 rfl <| kc 7 rfl <| kc 8 rfl <| kn) rfl ?_
   refine T_seq (T_reg ?_)
   refine R_q _ rfl (v_move (ov rfl)) ?_
   refine R_q _ rfl (v_assign (ov rfl)) ?_
   refine R_nil ?_
   refine T_keep (kc 0 rfl <| kc 1 rfl <| kc 5 rfl <| kc 7 rfl <| kc 8 rfl <| kn) rfl ?_
   refine T_seq (T_reg ?_)
   refine R_q _ rfl (v_move (ov rfl)) ?_
   refine R_q _ rfl (v_move (ov rfl)) ?_
   refine R_q _ rfl (v_move (ov rfl)) ?_
   obtain ⟨x, h_x, h⟩ := bnd h
   refine R_q _ rfl (v_ixSG (ov rfl) (ov rfl) tL26 h_x) ?_
   refine R_q _ rfl (v_loadS_r (ov rfl) tS3 rfl) ?_
   obtain ⟨y, h_y, h⟩ := bnd h
   refine R_q _ rfl (v_callC (ov rfl) f_d (f_h _ _ h_y) (.cons (ov rfl) (.b rfl) <| .nil)) ?_
   refine R_nil ?_
   refine T_keep (kc 0 rfl <| kc 1 rfl <| kc 5 rfl <| kc 7 rfl <| kc 8 rfl <| kc 16 rfl <| kn) rfl ?_
   refine T_if h rfl (fun b16 h => ?_) (fun b16 h => ?_)
   ·
    refine T_keep (kc 5 rfl <| kn) rfl ?_
    refine T_seq (T_reg ?_)
    refine R_q _ rfl (v_move (ov rfl)) ?_
    refine R_q _ rfl (v_assign (ov rfl)) ?_
    refine R_nil ?_
    rw [lx h] at ho1
    replace h := ho1
    obtain rfl := rt (v := i) h
    refine T_ret (retq ?_ (.one (.tmp rfl (Dat.view (.b rfl)))))
    rfl
   ·
    refine T_skip ?_
    refine T_keep (kc 0 rfl <| kc 1 rfl <| kc 7 rfl <| kc 8 rfl <| kn) rfl ?_
    refine T_reg ?_
    refine R_q _ rfl (v_add (ov rfl) (ov rfl) rfl) ?_
    refine R_q _ rfl (v_move (ov rfl)) ?_
    refine R_nil ?_
    exact ⟨(i64 (i + 1)), h, Ent.sel [] (sd 0 rfl rfl <| sr 1 rfl (rFn (rld f_d)) <| sd 7 rfl rfl <| sd 8 rfl rfl <| sn) (.nil) rfl rfl⟩
  ·
   refine T_exit ?_
   rw [lx h] at ho1
   replace h := ho1
   exact ⟨(), h, Ent.sel [] (sn) (.nil) rfl rfl⟩
 ·
  replace h := elr h
  cases j
  replace h := t0i h
  refine t0T ?_
  refine T_seq (T_reg ?_)
  refine R_q _ rfl (v_assign (ov rfl)) ?_
  refine R_nil ?_
  obtain rfl := rt (v := (-1)) h
  refine T_ret (retq ?_ (.one (.tmp rfl (Dat.view (.b rfl)))))
  rfl

theorem ok_slices_ContainsFunc_int_int {s : List Int} {f : Int → Option Bool} {r : Bool} {f_f : FuncId} {f_c : List AV} (f_d : f_c.all datB = true) (f_h : ∀ (z0 : Int) z, f z0 = some z → CSpec Tryd.prog gl0 f_f ([.int .i64 z0] ++ f_c) (.bool z)) (h : slices_ContainsFunc_int_int s f = some r) :
  CSpec Tryd.prog gl0 136 [.sl 3 (List.map R3 s), .fn f_f f_c] (.bool r) := by
 unfold slices_ContainsFunc_int_int at h
 replace h := bnd0 h
 refine spec_of (by kernel_rfl) Tryd.func136 rfl rfl ?_
 intro w0 A
 refine T_seq (T_reg ?_)
 refine R_q _ rfl (v_assign (ov rfl)) ?_
 refine R_nil ?_
 refine T_seq (T_reg ?_)
 refine R_q _ rfl (v_move (ov rfl)) ?_
 refine R_q _ rfl (v_move (ov rfl)) ?_
 obtain ⟨y, h_y, h⟩ := bnd h
 refine R_q _ rfl (v_call (ok_slices_IndexFunc_int_int f_d f_h h_y) (.cons (ov rfl) (.b rfl) <| .cons (ov rfl) (Dat.fnC (.refl fun x hx => .b (List.all_eq_true.1 f_d x hx))) <| .nil)) ?_
 refine R_q _ rfl (v_geq (ov rfl) (ov rfl)) ?_
 refine R_q _ rfl (v_assign (ov rfl)) ?_
 refine R_nil ?_
 obtain rfl := rt (v := (decide (0 ≤ y))) h
 refine T_ret (retq ?_ (.one (.tmp rfl (Dat.view (.b rfl)))))
 rfl

theorem ok_salvage_all_1 {s : Int} {c0 : Int} {r : Bool} (h : salvage_all_1 s c0 = some r) :
  CSpec Tryd.prog gl0 137 [.int .i64 s, .rp [.int .i64 c0] 0] (.bool r) := by
 unfold salvage_all_1 at h
 replace h := bnd0 h
 refine spec_of (by kernel_rfl) Tryd.func137 rfl rfl ?_
 intro w0 A
 refine T_seq (T_reg ?_)
 refine R_q _ rfl (v_assign (ov rfl)) ?_
 refine R_nil ?_
 refine T_seq (T_reg ?_)
 refine R_q _ rfl (v_move (ov rfl)) ?_
 refine R_q _ rfl (v_loadS_r (ov rfl) tS3 rfl) ?_
 refine R_q _ rfl (v_neq (ov rfl) (ov rfl)) ?_
 refine R_q _ rfl (v_assign (ov rfl)) ?_
 refine R_nil ?_
 obtain rfl := rt (v := (!decide (s = c0))) h
 refine T_ret (retq ?_ (.one (.tmp rfl (Dat.view (.b rfl)))))
 rfl

theorem ok_salvage_all {r_ : api_Rest} {state : Int} {r : Bool} (h : salvage_all r_ state = some r) :
  CSpec Tryd.prog gl0 111 [.agg ((.int .i64 r_.Number) :: ((List.map C36 r_.Frame.toList) ++ (((List.map C3 r_.States.toList) ++ ((.bool r_.Sound) :: (.int .i64 r_.Copies) :: (.bool r_.Conflict) :: []))))), .int .i64 state] (.bool r) := by
 unfold salvage_all at h
 replace h := bnd0 h
 refine spec_of (by kernel_rfl) Tryd.func111 rfl rfl ?_
 intro w0 A
 refine T_seq (T_reg ?_)
 refine R_q _ rfl (v_boxD (cva (ov rfl)) (lnC (n := 131) (lnA (m := 64) (n := 67) arL (lnA (m := 64) (n := 3) arL (lnC (n := 2) (lnC (n := 1) (lnC (n := 0) (lnN))))))) tZ_81 (alC rfl (alA (arD fun _ => rfl) (alA (arD fun _ => rfl) (alC rfl (alC rfl (alC rfl (alN)))))))) ?_
 refine R_q _ rfl (v_boxD (cvs (ov rfl) (cell1_b rfl)) rfl tZ_3 rfl) ?_
 refine R_q _ rfl (v_assign (ov rfl)) ?_
 refine R_nil ?_
 refine T_keep (kc 2 rfl <| kc 3 rfl <| kc 4 rfl <| kn) rfl ?_
 refine T_seq (T_reg ?_)
 refine R_q _ rfl (v_fieldR (ov rfl) tF81_2) ?_
 obtain ⟨l, h_l, h⟩ := bnd h
 refine R_q _ rfl (v_slR (f := C3) (ov rfl) tR79 tZ_3 (atc (o := 64) (ata (m := 64) (o := 0) arL (at0 (hdw arL)))) rfl on on h_l) ?_
 refine R_q _ rfl (v_makeFunc (.cons (ov rfl) <| .nil)) ?_
 obtain ⟨y, h_y, h⟩ := bnd h
 refine R_q _ rfl (v_call (ok_slices_ContainsFunc_int_int rfl (fun z0 _ hz => ok_salvage_all_1 hz) h_y) (.cons (ov rfl) (.b rfl) <| .cons (ov rfl) (.fnC (.cons (.b rfl) <| .nil)) <| .nil)) ?_
 refine R_q _ rfl (v_not (ov rfl)) ?_
 refine R_q _ rfl (v_assign (ov rfl)) ?_
 refine R_nil ?_
 obtain rfl := rt (v := (!y)) h
 refine T_ret (retq ?_ (.one (.tmp rfl (Dat.view (.b rfl)))))
 rfl

theorem ok_salvage_finder_beside {x : salvage_finder} {i : Int} {place : Int} {r : api_Rest × Bool} (h : salvage_finder_beside x i place = some r) :
  CSpec Tryd.prog gl0 89 [.rp [.sl 5 (List.map R5 x.h_), .sl 141 (List.map R141 x.certain), .sl 3 (List.map R3 x.numbers), .any] 0, .int .i64 i, .int .i64 place] (.tuple [.agg ((.int .i64 r.1.Number) :: ((List.map C36 r.1.Frame.toList) ++ (((List.map C3 r.1.States.toList) ++ ((.bool r.1.Sound) :: (.int .i64 r.1.Copies) :: (.bool r.1.Conflict) :: []))))), .bool r.2]) := by
 unfold salvage_finder_beside at h
 replace h := bnd0 h
 refine spec_of (by kernel_rfl) Tryd.func89 rfl rfl ?_
 intro w0 A
 refine T_seq (T_reg ?_)
 refine R_w _ _ rfl (w_alloc (row := (.int .i64 0) :: ((List.map C36 (Vector.replicate 64 0).toList) ++ (((List.map C3 (Vector.replicate 64 0).toList) ++ ((.bool false) :: (.int .i64 0) :: (.bool false) :: []))))) 0 rfl tZ81 (by kernel_rfl) (by exact Eq.symm (Eq.trans (b := 132) (lnC (n := 131) (lnA (m := 64) (n := 67) arL (lnA (m := 64) (n := 3) arL (lnC (n := 2) (lnC (n := 1) (lnC (n := 0) (lnN))))))) tZ_81.symm))) ?_
 refine R_q _ rfl (v_assign (ov rfl)) ?_
 refine R_nil ?_
 refine T_keep (kc 0 rfl <| kc 1 rfl <| kc 2 rfl <| kc 6 rfl <| kn) rfl ?_
 refine T_seq (T_reg ?_)
 refine R_q _ rfl (v_move (ov rfl)) ?_
 refine R_q _ rfl (v_nilCheckR (ov rfl)) ?_
 refine R_q _ rfl (v_fieldR (ov rfl) tF139_0) ?_
 refine R_q _ rfl (v_loadS_r (ov rfl) tS33 rfl) ?_
 refine R_q _ rfl (v_move (ov rfl)) ?_
 obtain ⟨y, h_y, h⟩ := bnd h
 refine R_q _ rfl (v_call (ok_salvage_partly h_y) (.cons (ov rfl) (.b rfl) <| .cons (ov rfl) (.b rfl) <| .nil)) ?_
 refine R_q _ rfl (v_move (ov rfl)) ?_
 refine R_q _ rfl (v_extract (ov rfl) rfl) ?_
 refine R_q _ rfl (v_extract (ov rfl) rfl) ?_
 refine R_w _ _ rfl (w_alloc (row := (List.map C36 (Vector.replicate 64 0).toList)) 1 rfl tZ38 rfl tZ_38) ?_
 refine R_w _ _ rfl (w_alloc (row := (List.map C4 (Vector.replicate 64 false).toList)) 2 rfl tZ39 rfl tZ_39) ?_
 refine R_w _ _ rfl (w_store (ov rfl) (ov rfl) (cells_agg tA38 arL) rfl rfl rfl (put_le (at_all arL) arL) (cell1_all (arC fun _ => rfl)) (put_all (Eq.trans arL (Eq.symm arL)))) ?_
 refine R_w _ _ rfl (w_store (ov rfl) (ov rfl) (cells_agg tA39 arL) rfl rfl rfl (put_le (at_all arL) arL) (cell1_all (arC fun _ => rfl)) (put_all (Eq.trans arL (Eq.symm arL)))) ?_
 refine R_nil ?_
 refine T_keep (kc 0 rfl <| kc 1 rfl <| kc 2 rfl <| kc 6 rfl <| kc 8 rfl <| kc 9 rfl <| kn) rfl ?_
 refine T_seq (T_reg ?_)
 refine R_q _ rfl (v_move (ov rfl)) ?_
 refine R_q _ rfl (v_move (ov rfl)) ?_
 refine R_q _ rfl (v_move (ov rfl)) ?_
 refine R_q _ rfl (v_loadA (ov rfl) rfl rfl rfl tA38 (at_sub (at_all arL)) arL (hns := (nsM fun _ => rfl))) ?_
 refine R_q _ rfl (v_loadA (ov rfl) rfl rfl rfl tA39 (at_sub (at_all arL)) arL (hns := (nsM fun _ => rfl))) ?_
 obtain ⟨y2, h_y2, h⟩ := bnd h
 refine R_q _ rfl (v_call (ok_salvage_finder_number h_y2) (.cons (ov rfl) (.b rfl) <| .cons (ov rfl) (.b rfl) <| .cons (ov rfl) (.b rfl) <| .cons (ov rfl) (.aggB (arD fun _ => rfl)) <| .cons (ov rfl) (.aggB (arD fun _ => rfl)) <| .nil)) ?_
 refine R_q _ rfl (v_move (ov rfl)) ?_
 refine R_q _ rfl (v_extract (ov rfl) rfl) ?_
 refine R_q _ rfl (v_extract (ov rfl) rfl) ?_
 refine R_q _ rfl (v_assign (ov rfl)) ?_
 refine R_q _ rfl (v_assign (ov rfl)) ?_
 refine R_nil ?_
 refine T_seq ?_
 refine T_keep (kc 6 rfl <| kc 8 rfl <| kc 9 rfl <| kc 10 rfl <| kc 11 rfl <| kn) rfl ?_
 refine T_seq (T_reg ?_)
 refine R_q _ rfl (v_move (ov rfl)) ?_
 refine R_q _ rfl (v_not (ov rfl)) ?_
 refine R_nil ?_
 refine T_keep (kc 6 rfl <| kc 8 rfl <| kc 9 rfl <| kc 10 rfl <| kc 34 rfl <| kn) rfl ?_
 refine T_if h rfl (fun b34 h => ?_) (fun b34 h => ?_)
 ·
  refine T_keep (kc 6 rfl <| kn) rfl ?_
  refine T_seq (T_reg ?_)
  refine R_q _ rfl (v_buildX (zr := (.int .i64 0) :: ((List.map C36 (Vector.replicate 64 0).toList) ++ (((List.map C3 (Vector.replicate 64 0).toList) ++ ((.bool false) :: (.int .i64 0) :: (.bool false) :: []))))) tPL81 tHA81 tZ81 (by kernel_rfl) (.nil) (fa_nil)) ?_
  refine R_w _ _ rfl (w_store (ov rfl) (ov rfl) (cells_agg tA81 (lnC (n := 131) (lnA (m := 64) (n := 67) arL (lnA (m := 64) (n := 3) arL (lnC (n := 2) (lnC (n := 1) (lnC (n := 0) (lnN)))))))) rfl rfl rfl (put_le (at_all (lnC (n := 131) (lnA (m := 64) (n := 67) arL (lnA (m := 64) (n := 3) arL (lnC (n := 2) (lnC (n := 1) (lnC (n := 0) (lnN)))))))) (lnC (n := 131) (lnA (m := 64) (n := 67) arL (lnA (m := 64) (n := 3) arL (lnC (n := 2) (lnC (n := 1) (lnC (n := 0) (lnN)))))))) (cell1_all (alC rfl (alA (arC fun _ => rfl) (alA (arC fun _ => rfl) (alC rfl (alC rfl (alC rfl (alN)))))))) (put_all (Eq.trans (lnC (n := 131) (lnA (m := 64) (n := 67) arL (lnA (m := 64) (n := 3) arL (lnC (n := 2) (lnC (n := 1) (lnC (n := 0) (lnN))))))) (Eq.symm (lnC (n := 131) (lnA (m := 64) (n := 67) arL (lnA (m := 64) (n := 3) arL (lnC (n := 2) (lnC (n := 1) (lnC (n := 0) (lnN))))))))))) ?_
  refine R_q _ rfl (v_assign (ov rfl)) ?_
  refine R_nil ?_
  obtain rfl := rt (v := ((api_Rest.mk 0 (Vector.replicate 64 0) (Vector.replicate 64 0) false 0 false), false)) h
  refine T_ret (retq ?_ (.two (.agg rfl rfl rfl rfl tA81 (at_sub (at_all (lnC (n := 131) (lnA (m := 64) (n := 67) arL (lnA (m := 64) (n := 3) arL (lnC (n := 2) (lnC (n := 1) (lnC (n := 0) (lnN))))))))) (lnC (n := 131) (lnA (m := 64) (n := 67) arL (lnA (m := 64) (n := 3) arL (lnC (n := 2) (lnC (n := 1) (lnC (n := 0) (lnN))))))) (pwB (alC rfl (alA (arD fun _ => rfl) (alA (arD fun _ => rfl) (alC rfl (alC rfl (alC rfl (alN)))))))) (hns := nsC rfl (nsA (nsM fun _ => rfl) (nsA (nsM fun _ => rfl) (nsC rfl (nsC rfl (nsC rfl (nsR rfl)))))))) (.tmp rfl (Dat.view (.b rfl)))))
  rfl
 ·
  refine T_skip ?_
  refine T_keep (kc 6 rfl <| kc 8 rfl <| kc 9 rfl <| kc 10 rfl <| kn) rfl ?_
  refine T_seq (T_reg ?_)
  refine R_q _ rfl (v_move (ov rfl)) ?_
  refine R_q _ rfl (v_buildX (zr := (.int .i64 0) :: ((List.map C36 (Vector.replicate 64 0).toList) ++ (((List.map C3 (Vector.replicate 64 0).toList) ++ ((.bool false) :: (.int .i64 0) :: (.bool false) :: []))))) tPL81 tHA81 tZ81 (by kernel_rfl) (.cons (cvs (ov rfl) (cell1_b rfl)) <| .nil) (fa_cons rfl rfl (at0 (hdc (n := 0) hd0)) (put1) <| fa_nil)) ?_
  refine R_w _ _ rfl (w_alloc (row := (.int .i64 0) :: ((List.map C36 (Vector.replicate 64 0).toList) ++ (((List.map C3 (Vector.replicate 64 0).toList) ++ ((.bool false) :: (.int .i64 0) :: (.bool false) :: []))))) 3 rfl tZ81 (by kernel_rfl) (by exact Eq.symm (Eq.trans (b := 132) (lnC (n := 131) (lnA (m := 64) (n := 67) arL (lnA (m := 64) (n := 3) arL (lnC (n := 2) (lnC (n := 1) (lnC (n := 0) (lnN))))))) tZ_81.symm))) ?_
  refine R_w _ _ rfl (w_store (ov rfl) (ov rfl) (cells_agg tA81 (lnC (n := 131) (lnA (m := 64) (n := 67) arL (lnA (m := 64) (n := 3) arL (lnC (n := 2) (lnC (n := 1) (lnC (n := 0) (lnN)))))))) rfl rfl rfl (put_le (at_all (lnC (n := 131) (lnA (m := 64) (n := 67) arL (lnA (m := 64) (n := 3) arL (lnC (n := 2) (lnC (n := 1) (lnC (n := 0) (lnN)))))))) (lnC (n := 131) (lnA (m := 64) (n := 67) arL (lnA (m := 64) (n := 3) arL (lnC (n := 2) (lnC (n := 1) (lnC (n := 0) (lnN)))))))) (cell1_all (alC rfl (alA (arC fun _ => rfl) (alA (arC fun _ => rfl) (alC rfl (alC rfl (alC rfl (alN)))))))) (put_all (Eq.trans (lnC (n := 131) (lnA (m := 64) (n := 67) arL (lnA (m := 64) (n := 3) arL (lnC (n := 2) (lnC (n := 1) (lnC (n := 0) (lnN))))))) (Eq.symm (lnC (n := 131) (lnA (m := 64) (n := 67) arL (lnA (m := 64) (n := 3) arL (lnC (n := 2) (lnC (n := 1) (lnC (n := 0) (lnN))))))))))) ?_
  refine R_nil ?_
  refine T_joinG id (t1 fun r_ => ⟨[(6, .ptr 0 1 0 0), (12, .ptr 1 1 0 0)], [some ⟨81, [(.int .i64 0) :: ((List.map C36 (Vector.replicate 64 0).toList) ++ (((List.map C3 (Vector.replicate 64 0).toList) ++ ((.bool false) :: (.int .i64 0) :: (.bool false) :: []))))]⟩, some ⟨81, [(.int .i64 r_.Number) :: ((List.map C36 r_.Frame.toList) ++ (((List.map C3 r_.States.toList) ++ ((.bool r_.Sound) :: (.int .i64 r_.Copies) :: (.bool r_.Conflict) :: []))))]⟩]⟩) h (fun h => ?_) (fun j h => ?_)
  ·
   refine T_keep (kc 6 rfl <| kc 8 rfl <| kc 9 rfl <| kc 10 rfl <| kc 12 rfl <| kn) rfl ?_
   refine T_seq (T_reg ?_)
   refine R_q _ rfl (v_loadA (ov rfl) rfl rfl rfl tA38 (at_sub (at_all arL)) arL (hns := (nsM fun _ => rfl))) ?_
   refine R_q _ rfl (v_move (ov rfl)) ?_
   refine R_nil ?_
   refine T_block ?_
   obtain ⟨r1, hl1, ho1⟩ := bndL h
   refine T_loopG _ (t2 fun r_2 i2 => ⟨[(6, .ptr 0 1 0 0), (9, .ptr 1 1 0 0), (10, .int .i64 y2.1), (12, .ptr 2 1 0 0), (38, .agg (List.map C36 y.1.toList)), (39, .int .i64 i2)], [some ⟨81, [(.int .i64 0) :: ((List.map C36 (Vector.replicate 64 0).toList) ++ (((List.map C3 (Vector.replicate 64 0).toList) ++ ((.bool false) :: (.int .i64 0) :: (.bool false) :: []))))]⟩, some ⟨39, [(List.map C4 y.2.toList)]⟩, some ⟨81, [(.int .i64 r_2.Number) :: ((List.map C36 r_2.Frame.toList) ++ (((List.map C3 r_2.States.toList) ++ ((.bool r_2.Sound) :: (.int .i64 r_2.Copies) :: (.bool r_2.Conflict) :: []))))]⟩]⟩) _ hl1 (Ent.sel [some 0, some 2, some 3] (sr 6 rfl (.ptr _ _ _ rfl) <| sr 9 rfl (.ptr _ _ _ rfl) <| sd 10 rfl rfl <| sr 12 rfl (.ptr _ _ _ rfl) <| sr 38 rfl (rAgg (rld (arD fun _ => rfl))) <| sd 39 rfl rfl <| sn) (.cons rfl (ro1 (by exact Eq.trans (b := 132) (lnC (n := 131) (lnA (m := 64) (n := 67) arL (lnA (m := 64) (n := 3) arL (lnC (n := 2) (lnC (n := 1) (lnC (n := 0) (lnN))))))) tZ_81.symm) (rld (alC rfl (alA (arD fun _ => rfl) (alA (arD fun _ => rfl) (alC rfl (alC rfl (alC rfl (alN))))))))) <| .cons rfl (ro1 (by exact Eq.trans (b := 64) arL tZ_39.symm) (rld (arD fun _ => rfl))) <| .cons rfl (ro1 (by exact Eq.trans (b := 132) (lnC (n := 131) (lnA (m := 64) (n := 67) arL (lnA (m := 64) (n := 3) arL (lnC (n := 2) (lnC (n := 1) (lnC (n := 0) (lnN))))))) tZ_81.symm) (rld (alC rfl (alA (arD fun _ => rfl) (alA (arD fun _ => rfl) (alC rfl (alC rfl (alC rfl (alN))))))))) <| .nil) rfl rfl) (fun n1 s1 h => ?_)
   obtain ⟨r_2, i2⟩ := s1
   replace h := t2i h
   refine t2T ?_
   unfold salvage_finder_beside_L1 at h
   refine T_seq (T_reg ?_)
   refine R_q _ rfl (v_lss (ov rfl) (ov rfl)) ?_
   refine R_nil ?_
   refine T_seq ?_
   refine T_if h rfl (fun b40 h => ?_) (fun b40 h => ?_)
   ·
    refine T_skip ?_
    refine T_seq ?_
    refine T_block ?_
    refine T_keep (kc 6 rfl <| kc 9 rfl <| kc 10 rfl <| kc 12 rfl <| kc 38 rfl <| kc 39 rfl <| kn) rfl ?_
    refine T_seq (T_reg ?_)
    refine R_q _ rfl (v_move (ov rfl)) ?_
    obtain ⟨x2, h_x2, h⟩ := bnd h
    refine R_q _ rfl (v_indexVG (ov rfl) (ov rfl) tR38 tS36 h_x2) ?_
    refine R_q _ rfl (v_assign (ov rfl)) ?_
    refine R_q _ rfl (v_assign (ov rfl)) ?_
    refine R_nil ?_
    refine T_keep (kc 6 rfl <| kc 9 rfl <| kc 10 rfl <| kc 12 rfl <| kc 13 rfl <| kc 14 rfl <| kc 38 rfl <| kc 39 rfl <| kn) rfl ?_
    refine T_seq (T_reg ?_)
    refine R_q _ rfl (v_move (ov rfl)) ?_
    obtain ⟨x3, h_x3, h⟩ := bnd h
    refine R_q _ rfl (v_ixAG (ov rfl) (ov rfl) tR39 rfl rfl h_x3) ?_
    refine R_q _ rfl (v_loadS (ov rfl) rfl rfl rfl tS4 (at_get (at_at (o := 0) (o' := (i2.toNat * 1)) (at_all arL) (at_v1 h_x3)))) ?_
    refine R_q _ rfl (v_move (ov rfl)) ?_
    refine R_q _ rfl (.guarded (x3 == true) rfl rfl rfl rfl fun h => v_move (ov rfl)) ?_
    refine R_q _ rfl (.guarded (x3 == true) rfl rfl rfl rfl fun h => v_move (ov rfl)) ?_
    refine R_q _ rfl (.guarded (x3 == true) rfl rfl rfl rfl fun h => v_move (ov rfl)) ?_
    obtain ⟨y3, h_y3, h⟩ := bnd h
    refine R_q _ rfl (.guarded (x3 == true) rfl rfl rfl rfl fun h => v_call (ok_salvage_rightAlone (gdT h_y3 h)) (.cons (ow rfl h) (.b rfl) <| .cons (ow rfl h) (.b rfl) <| .cons (ow rfl h) (.b rfl) <| .nil)) ?_
    refine R_q _ rfl (v_and (ov rfl) (fun hp => ow rfl (gT hp))) ?_
    refine R_nil ?_
    refine T_keep (kc 6 rfl <| kc 9 rfl <| kc 10 rfl <| kc 12 rfl <| kc 13 rfl <| kc 14 rfl <| kc 38 rfl <| kc 39 rfl <| kc 51 rfl <| kn) rfl ?_
    refine T_if h rfl (fun b51 h => ?_) (fun b51 h => ?_)
    ·
     refine T_keep (kc 6 rfl <| kc 9 rfl <| kc 10 rfl <| kc 12 rfl <| kc 13 rfl <| kc 14 rfl <| kc 38 rfl <| kc 39 rfl <| kn) rfl ?_
     refine T_reg ?_
     refine R_q _ rfl (v_move (ov rfl)) ?_
     refine R_q _ rfl (v_move (ov rfl)) ?_
     refine R_q _ rfl (v_move (ov rfl)) ?_
     refine R_q _ rfl (v_fieldP (ov rfl) rfl rfl tF81_1) ?_
     obtain ⟨x4, h_x4, h⟩ := bnd h
     refine R_q _ rfl (v_ixAG (ov rfl) (ov rfl) tR38 rfl rfl h_x4) ?_
     refine R_w _ _ rfl (w_store (ov rfl) (ov rfl) (cells_scal tS36) rfl rfl rfl (put_le (at_at (o := 1) (o' := (i2.toNat * 1)) (atc (o := 0) (at0 (hdw arL))) (at_v1 h_x4)) rfl) (cell1_all rfl) (put_put (o := 1) (o' := (i2.toNat * 1)) (atc (o := 0) (at0 (hdw arL))) (at_v1 h_x4) rfl (put_v1 h_x4 (x := x2)) (putc (o := 0) (putw (Eq.trans arL (Eq.symm arL)))))) ?_
     refine R_q _ rfl (v_fieldP (ov rfl) rfl rfl tF81_2) ?_
     obtain ⟨x5, h_x5, h⟩ := bnd h
     refine R_q _ rfl (v_ixAG (ov rfl) (ov rfl) tR79 rfl rfl h_x5) ?_
     refine R_w _ _ rfl (w_store (ov rfl) (ov rfl) (cells_scal tS3) rfl rfl rfl (put_le (at_at (o := 65) (o' := (i2.toNat * 1)) (atc (o := 64) (ata (m := 64) (o := 0) arL (at0 (hdw arL)))) (at_v1 h_x5)) rfl) (cell1_all rfl) (put_put (o := 65) (o' := (i2.toNat * 1)) (atc (o := 64) (ata (m := 64) (o := 0) arL (at0 (hdw arL)))) (at_v1 h_x5) rfl (put_v1 h_x5 (x := 1)) (putc (o := 64) (puta (m := 64) (o := 0) arL (putw (Eq.trans arL (Eq.symm arL))))))) ?_
     refine R_nil ?_
     refine T_keep (kc 6 rfl <| kc 9 rfl <| kc 10 rfl <| kc 12 rfl <| kc 38 rfl <| kc 39 rfl <| kn) rfl ?_
     refine T_reg ?_
     refine R_q _ rfl (v_add (ov rfl) (ov rfl) rfl) ?_
     refine R_q _ rfl (v_move (ov rfl)) ?_
     refine R_nil ?_
     exact ⟨((api_Rest.mk r_2.Number (vset r_2.Frame i2 x2) (vset r_2.States i2 1) r_2.Sound r_2.Copies r_2.Conflict), (i64 (i2 + 1))), h, Ent.sel [some 0, some 1, some 2] (sr 6 rfl (.ptr _ _ _ rfl) <| sr 9 rfl (.ptr _ _ _ rfl) <| sd 10 rfl rfl <| sr 12 rfl (.ptr _ _ _ rfl) <| sr 38 rfl (rAgg (rld (arD fun _ => rfl))) <| sd 39 rfl rfl <| sn) (.cons rfl (ro1 (by exact Eq.trans (b := 132) (lnC (n := 131) (lnA (m := 64) (n := 67) arL (lnA (m := 64) (n := 3) arL (lnC (n := 2) (lnC (n := 1) (lnC (n := 0) (lnN))))))) tZ_81.symm) (rld (alC rfl (alA (arD fun _ => rfl) (alA (arD fun _ => rfl) (alC rfl (alC rfl (alC rfl (alN))))))))) <| .cons rfl (ro1 (by exact Eq.trans (b := 64) arL tZ_39.symm) (rld (arD fun _ => rfl))) <| .cons rfl (ro1 (by exact Eq.trans (b := 132) (lnC (n := 131) (lnA (m := 64) (n := 67) arL (lnA (m := 64) (n := 3) arL (lnC (n := 2) (lnC (n := 1) (lnC (n := 0) (lnN))))))) tZ_81.symm) (rld (alC rfl (alA (arD fun _ => rfl) (alA (arD fun _ => rfl) (alC rfl (alC rfl (alC rfl (alN))))))))) <| .nil) rfl rfl⟩
    ·
     refine T_skip ?_
     refine T_keep (kc 6 rfl <| kc 9 rfl <| kc 10 rfl <| kc 12 rfl <| kc 38 rfl <| kc 39 rfl <| kn) rfl ?_
     refine T_reg ?_
     refine R_q _ rfl (v_add (ov rfl) (ov rfl) rfl) ?_
     refine R_q _ rfl (v_move (ov rfl)) ?_
     refine R_nil ?_
     exact ⟨(r_2, (i64 (i2 + 1))), h, Ent.sel [some 0, some 1, some 2] (sr 6 rfl (.ptr _ _ _ rfl) <| sr 9 rfl (.ptr _ _ _ rfl) <| sd 10 rfl rfl <| sr 12 rfl (.ptr _ _ _ rfl) <| sr 38 rfl (rAgg (rld (arD fun _ => rfl))) <| sd 39 rfl rfl <| sn) (.cons rfl (ro1 (by exact Eq.trans (b := 132) (lnC (n := 131) (lnA (m := 64) (n := 67) arL (lnA (m := 64) (n := 3) arL (lnC (n := 2) (lnC (n := 1) (lnC (n := 0) (lnN))))))) tZ_81.symm) (rld (alC rfl (alA (arD fun _ => rfl) (alA (arD fun _ => rfl) (alC rfl (alC rfl (alC rfl (alN))))))))) <| .cons rfl (ro1 (by exact Eq.trans (b := 64) arL tZ_39.symm) (rld (arD fun _ => rfl))) <| .cons rfl (ro1 (by exact Eq.trans (b := 132) (lnC (n := 131) (lnA (m := 64) (n := 67) arL (lnA (m := 64) (n := 3) arL (lnC (n := 2) (lnC (n := 1) (lnC (n := 0) (lnN))))))) tZ_81.symm) (rld (alC rfl (alA (arD fun _ => rfl) (alA (arD fun _ => rfl) (alC rfl (alC rfl (alC rfl (alN))))))))) <| .nil) rfl rfl⟩
   ·
    refine T_exit ?_
    rw [lx h] at ho1
    replace h := ho1
    exact ⟨r_2, h, Ent.sel [some 0, some 2] (sr 6 rfl (.ptr _ _ _ rfl) <| sr 12 rfl (.ptr _ _ _ rfl) <| sn) (.cons rfl (ro1 (by exact Eq.trans (b := 132) (lnC (n := 131) (lnA (m := 64) (n := 67) arL (lnA (m := 64) (n := 3) arL (lnC (n := 2) (lnC (n := 1) (lnC (n := 0) (lnN))))))) tZ_81.symm) (rld (alC rfl (alA (arD fun _ => rfl) (alA (arD fun _ => rfl) (alC rfl (alC rfl (alC rfl (alN))))))))) <| .cons rfl (ro1 (by exact Eq.trans (b := 132) (lnC (n := 131) (lnA (m := 64) (n := 67) arL (lnA (m := 64) (n := 3) arL (lnC (n := 2) (lnC (n := 1) (lnC (n := 0) (lnN))))))) tZ_81.symm) (rld (alC rfl (alA (arD fun _ => rfl) (alA (arD fun _ => rfl) (alC rfl (alC rfl (alC rfl (alN))))))))) <| .nil) rfl rfl⟩
  ·
   obtain ⟨r_, rfl⟩ : ∃ x, x = j := ⟨_, rfl⟩
   replace h := t1i h
   refine t1T ?_
   refine T_seq (T_draw (cw := md0) (by kernel_rfl) ?_)
   refine D_q0 0 _ rfl (by kernel_rfl) rfl rfl (v_loadA (ov rfl) rfl rfl rfl tA81 (at_sub (at_all (lnC (n := 131) (lnA (m := 64) (n := 67) arL (lnA (m := 64) (n := 3) arL (lnC (n := 2) (lnC (n := 1) (lnC (n := 0) (lnN))))))))) (lnC (n := 131) (lnA (m := 64) (n := 67) arL (lnA (m := 64) (n := 3) arL (lnC (n := 2) (lnC (n := 1) (lnC (n := 0) (lnN))))))) (hns := nsC rfl (nsA (nsM fun _ => rfl) (nsA (nsM fun _ => rfl) (nsC rfl (nsC rfl (nsC rfl (nsR rfl)))))))) ?_
   refine D_q0 1 _ rfl (by kernel_rfl) rfl rfl (v_loadA (ov rfl) rfl rfl rfl tA81 (at_sub (at_all (lnC (n := 131) (lnA (m := 64) (n := 67) arL (lnA (m := 64) (n := 3) arL (lnC (n := 2) (lnC (n := 1) (lnC (n := 0) (lnN))))))))) (lnC (n := 131) (lnA (m := 64) (n := 67) arL (lnA (m := 64) (n := 3) arL (lnC (n := 2) (lnC (n := 1) (lnC (n := 0) (lnN))))))) (hns := nsC rfl (nsA (nsM fun _ => rfl) (nsA (nsM fun _ => rfl) (nsC rfl (nsC rfl (nsC rfl (nsR rfl)))))))) ?_
   obtain ⟨y4, h_y4, h⟩ := bnd h
   refine D_q0 2 _ rfl (by kernel_rfl) rfl rfl (v_call (ok_salvage_all h_y4) (.cons (ov rfl) (.aggB (alC rfl (alA (arD fun _ => rfl) (alA (arD fun _ => rfl) (alC rfl (alC rfl (alC rfl (alN)))))))) <| .cons (ov rfl) (.b rfl) <| .nil)) ?_
   refine D_free 3 _ rfl (by kernel_rfl) rfl rfl (fun hp' => v_not (ov rfl)) ?_
   refine D_one 4 _ _ rfl (by kernel_rfl) rfl rfl (fun h => by cases h) (fun h => by cases h) (w_store (ov rfl) (ov rfl) (cells_agg tA81 (lnC (n := 131) (lnA (m := 64) (n := 67) arL (lnA (m := 64) (n := 3) arL (lnC (n := 2) (lnC (n := 1) (lnC (n := 0) (lnN)))))))) rfl rfl rfl (put_le (at_all (lnC (n := 131) (lnA (m := 64) (n := 67) arL (lnA (m := 64) (n := 3) arL (lnC (n := 2) (lnC (n := 1) (lnC (n := 0) (lnN)))))))) (lnC (n := 131) (lnA (m := 64) (n := 67) arL (lnA (m := 64) (n := 3) arL (lnC (n := 2) (lnC (n := 1) (lnC (n := 0) (lnN)))))))) (cell1_all (alC rfl (alA (arC fun _ => rfl) (alA (arC fun _ => rfl) (alC rfl (alC rfl (alC rfl (alN)))))))) (put_all (Eq.trans (lnC (n := 131) (lnA (m := 64) (n := 67) arL (lnA (m := 64) (n := 3) arL (lnC (n := 2) (lnC (n := 1) (lnC (n := 0) (lnN))))))) (Eq.symm (lnC (n := 131) (lnA (m := 64) (n := 67) arL (lnA (m := 64) (n := 3) arL (lnC (n := 2) (lnC (n := 1) (lnC (n := 0) (lnN))))))))))) ?_
   refine D_q0 5 _ rfl (by kernel_rfl) rfl rfl (v_assign (ov rfl)) ?_
   refine D_done (by kernel_rfl) ?_
   obtain rfl := rt (v := (r_, (!y4))) h
   refine T_ret (retq ?_ (.two (.agg rfl rfl rfl rfl tA81 (at_sub (at_all (lnC (n := 131) (lnA (m := 64) (n := 67) arL (lnA (m := 64) (n := 3) arL (lnC (n := 2) (lnC (n := 1) (lnC (n := 0) (lnN))))))))) (lnC (n := 131) (lnA (m := 64) (n := 67) arL (lnA (m := 64) (n := 3) arL (lnC (n := 2) (lnC (n := 1) (lnC (n := 0) (lnN))))))) (pwB (alC rfl (alA (arD fun _ => rfl) (alA (arD fun _ => rfl) (alC rfl (alC rfl (alC rfl (alN)))))))) (hns := nsC rfl (nsA (nsM fun _ => rfl) (nsA (nsM fun _ => rfl) (nsC rfl (nsC rfl (nsC rfl (nsR rfl)))))))) (.tmp rfl (Dat.view (.b rfl)))))
   rfl

theorem ok_sortIL {xs r : List Int} (h : sortI xs = some r) :
  GSpec Tryd.prog gl0 90 [.own 0 xs.length] [some ⟨3, List.map R3 xs⟩] (.tuple []) [some ⟨3, List.map R3 r⟩] :=
 ok_sortI (g := R3) (fun _ => rfl) (by kernel_rfl) tZ_3 (fun _ _ _ _ _ h1 h2 h3 => Any.slices_Sort_int Tryd.lays189 _ _ _ _ _ h1 h2 h3) h

theorem ok_slices_IndexFunc_api_Rest_api_Rest {s : List api_Rest} {f : api_Rest → Option Bool} {r : Int} {f_f : FuncId} {f_c : List AV} (f_d : f_c.all datB = true) (f_h : ∀ (z0 : api_Rest) z, f z0 = some z → CSpec Tryd.prog gl0 f_f ([.agg ((.int .i64 z0.Number) :: ((List.map C36 z0.Frame.toList) ++ (((List.map C3 z0.States.toList) ++ ((.bool z0.Sound) :: (.int .i64 z0.Copies) :: (.bool z0.Conflict) :: [])))))] ++ f_c) (.bool z)) (h : slices_IndexFunc_api_Rest_api_Rest s f = some r) :
  CSpec Tryd.prog gl0 149 [.sl 81 (List.map R81 s), .fn f_f f_c] (.int .i64 r) := by
 unfold slices_IndexFunc_api_Rest_api_Rest at h
 replace h := bnd0 h
 refine spec_of (by kernel_rfl) Tryd.func149 rfl rfl ?_
 intro w0 A
 refine T_seq (T_reg ?_)
 refine R_q _ rfl (v_assign (ov rfl)) ?_
 refine R_nil ?_
 refine T_joinG (fun j => (.inr j)) (t0 ⟨[], []⟩) h (fun h => ?_) (fun j h => ?_)
 ·
  refine T_keep (kc 0 rfl <| kc 1 rfl <| kn) rfl ?_
  refine T_seq (T_reg ?_)
  refine R_q _ rfl (v_move (ov rfl)) ?_
  refine R_q _ rfl (v_len (slv_sl (ov rfl) tZ_81) tL75 (len_map _ _)) ?_
  refine R_q _ rfl (v_move (ov rfl)) ?_
  refine R_nil ?_
  refine T_block ?_
  obtain ⟨r1, hl1, ho1⟩ := bndL h
  refine T_loopG _ (t1 fun i => ⟨[(0, .sl 81 (List.map R81 s)), (1, .fn f_f f_c), (7, .int .i64 (s.length : Int)), (8, .int .i64 i)], []⟩) _ hl1 (Ent.sel [] (sd 0 rfl rfl <| sr 1 rfl (rFn (rld f_d)) <| sd 7 rfl rfl <| sd 8 rfl rfl <| sn) (.nil) rfl rfl) (fun n1 s1 h => ?_)
  obtain ⟨i, rfl⟩ : ∃ x, x = s1 := ⟨_, rfl⟩
  replace h := t1i h
  refine t1T ?_
  unfold slices_IndexFunc_api_Rest_api_Rest_L1 at h
  refine T_seq (T_reg ?_)
  refine R_q _ rfl (v_lss (ov rfl) (ov rfl)) ?_
  refine R_nil ?_
  refine T_seq ?_
  refine T_if h rfl (fun b9 h => ?_) (fun b9 h => ?_)
  ·
   refine T_skip ?_
   refine T_seq ?_
   refine T_block ?_
   refine T_keep (kc 0 rfl <| kc 1 rfl <| kc 7 rfl <| kc 8 rfl <| kn) rfl ?_
   refine T_seq (T_reg ?_)
   refine R_q _ rfl (v_move (ov rfl)) ?_
   refine R_q _ rfl (v_assign (ov rfl)) ?_
   refine R_nil ?_
   refine T_keep (kc 0 rfl <| kc 1 rfl <| kc 5 rfl <| kc 7 rfl <| kc 8 rfl <| kn) rfl ?_
   refine T_seq (T_reg ?_)
   refine R_q _ rfl (v_move (ov rfl)) ?_
   refine R_q _ rfl (v_move (ov rfl)) ?_
   refine R_q _ rfl (v_move (ov rfl)) ?_
   obtain ⟨x, h_x, h⟩ := bnd h
   refine R_q _ rfl (v_ixSG (ov rfl) (ov rfl) tL75 h_x) ?_
   refine R_q _ rfl (v_loadA_r (ov rfl) tA81 (at_sub (at_all (lnC (n := 131) (lnA (m := 64) (n := 67) arL (lnA (m := 64) (n := 3) arL (lnC (n := 2) (lnC (n := 1) (lnC (n := 0) (lnN))))))))) (lnC (n := 131) (lnA (m := 64) (n := 67) arL (lnA (m := 64) (n := 3) arL (lnC (n := 2) (lnC (n := 1) (lnC (n := 0) (lnN)))))))) ?_
   obtain ⟨y, h_y, h⟩ := bnd h
   refine R_q _ rfl (v_callC (ov rfl) f_d (f_h _ _ h_y) (.cons (ov rfl) (.aggB (alC rfl (alA (arD fun _ => rfl) (alA (arD fun _ => rfl) (alC rfl (alC rfl (alC rfl (alN)))))))) <| .nil)) ?_
   refine R_nil ?_
   refine T_keep (kc 0 rfl <| kc 1 rfl <| kc 5 rfl <| kc 7 rfl <| kc 8 rfl <| kc 16 rfl <| kn) rfl ?_
   refine T_if h rfl (fun b16 h => ?_) (fun b16 h => ?_)
   ·
    refine T_keep (kc 5 rfl <| kn) rfl ?_
    refine T_seq (T_reg ?_)
    refine R_q _ rfl (v_move (ov rfl)) ?_
    refine R_q _ rfl (v_assign (ov rfl)) ?_
    refine R_nil ?_
    rw [lx h] at ho1
    replace h := ho1
    obtain rfl := rt (v := i) h
    refine T_ret (retq ?_ (.one (.tmp rfl (Dat.view (.b rfl)))))
    rfl
   ·
    refine T_skip ?_
    refine T_keep (kc 0 rfl <| kc 1 rfl <| kc 7 rfl <| kc 8 rfl <| kn) rfl ?_
    refine T_reg ?_
    refine R_q _ rfl (v_add (ov rfl) (ov rfl) rfl) ?_
    refine R_q _ rfl (v_move (ov rfl)) ?_
    refine R_nil ?_
    exact ⟨(i64 (i + 1)), h, Ent.sel [] (sd 0 rfl rfl <| sr 1 rfl (rFn (rld f_d)) <| sd 7 rfl rfl <| sd 8 rfl rfl <| sn) (.nil) rfl rfl⟩
  ·
   refine T_exit ?_
   rw [lx h] at ho1
   replace h := ho1
   exact ⟨(), h, Ent.sel [] (sn) (.nil) rfl rfl⟩
 ·
  replace h := elr h
  cases j
  replace h := t0i h
  refine t0T ?_
  refine T_seq (T_reg ?_)
  refine R_q _ rfl (v_assign (ov rfl)) ?_
  refine R_nil ?_
  obtain rfl := rt (v := (-1)) h
  refine T_ret (retq ?_ (.one (.tmp rfl (Dat.view (.b rfl)))))
  rfl

theorem ok_slices_ContainsFunc_api_Rest_api_Rest {s : List api_Rest} {f : api_Rest → Option Bool} {r : Bool} {f_f : FuncId} {f_c : List AV} (f_d : f_c.all datB = true) (f_h : ∀ (z0 : api_Rest) z, f z0 = some z → CSpec Tryd.prog gl0 f_f ([.agg ((.int .i64 z0.Number) :: ((List.map C36 z0.Frame.toList) ++ (((List.map C3 z0.States.toList) ++ ((.bool z0.Sound) :: (.int .i64 z0.Copies) :: (.bool z0.Conflict) :: [])))))] ++ f_c) (.bool z)) (h : slices_ContainsFunc_api_Rest_api_Rest s f = some r) :
  CSpec Tryd.prog gl0 114 [.sl 81 (List.map R81 s), .fn f_f f_c] (.bool r) := by
 unfold slices_ContainsFunc_api_Rest_api_Rest at h
 replace h := bnd0 h
 refine spec_of (by kernel_rfl) Tryd.func114 rfl rfl ?_
 intro w0 A
 refine T_seq (T_reg ?_)
 refine R_q _ rfl (v_assign (ov rfl)) ?_
 refine R_nil ?_
 refine T_seq (T_reg ?_)
 refine R_q _ rfl (v_move (ov rfl)) ?_
 refine R_q _ rfl (v_move (ov rfl)) ?_
 obtain ⟨y, h_y, h⟩ := bnd h
 refine R_q _ rfl (v_call (ok_slices_IndexFunc_api_Rest_api_Rest f_d f_h h_y) (.cons (ov rfl) (.b rfl) <| .cons (ov rfl) (Dat.fnC (.refl fun x hx => .b (List.all_eq_true.1 f_d x hx))) <| .nil)) ?_
 refine R_q _ rfl (v_geq (ov rfl) (ov rfl)) ?_
 refine R_q _ rfl (v_assign (ov rfl)) ?_
 refine R_nil ?_
 obtain rfl := rt (v := (decide (0 ≤ y))) h
 refine T_ret (retq ?_ (.one (.tmp rfl (Dat.view (.b rfl)))))
 rfl

theorem ok_salvage_merge_1 {r_ : api_Rest} {r : Bool} (h : salvage_merge_1 r_ = some r) :
  CSpec Tryd.prog gl0 115 [.agg ((.int .i64 r_.Number) :: ((List.map C36 r_.Frame.toList) ++ (((List.map C3 r_.States.toList) ++ ((.bool r_.Sound) :: (.int .i64 r_.Copies) :: (.bool r_.Conflict) :: [])))))] (.bool r) := by
 unfold salvage_merge_1 at h
 replace h := bnd0 h
 refine spec_of (by kernel_rfl) Tryd.func115 rfl rfl ?_
 intro w0 A
 refine T_seq (T_reg ?_)
 refine R_q _ rfl (v_boxD (cva (ov rfl)) (lnC (n := 131) (lnA (m := 64) (n := 67) arL (lnA (m := 64) (n := 3) arL (lnC (n := 2) (lnC (n := 1) (lnC (n := 0) (lnN))))))) tZ_81 (alC rfl (alA (arD fun _ => rfl) (alA (arD fun _ => rfl) (alC rfl (alC rfl (alC rfl (alN)))))))) ?_
 refine R_q _ rfl (v_assign (ov rfl)) ?_
 refine R_nil ?_
 refine T_keep (kc 1 rfl <| kc 2 rfl <| kn) rfl ?_
 refine T_seq (T_reg ?_)
 refine R_q _ rfl (v_fieldR (ov rfl) tF81_5) ?_
 refine R_q _ rfl (v_loadS_r (ov rfl) tS4 (at_get (atc (o := 130) (ata (m := 64) (o := 66) arL (ata (m := 64) (o := 2) arL (atc (o := 1) (atc (o := 0) (at0 (hdc (n := 0) hd0))))))))) ?_
 refine R_q _ rfl (v_assign (ov rfl)) ?_
 refine R_nil ?_
 obtain rfl := rt (v := r_.Conflict) h
 refine T_ret (retq ?_ (.one (.tmp rfl (Dat.view (.b rfl)))))
 rfl

theorem ok_salvage_ofSound_w {out : api_Rest} {l : List api_Rest} {r : Bool × api_Rest} (h : salvage_ofSound out l = some r) :
  GSpec Tryd.prog gl0 116 [.ptr 0 1 0 0, .sl 81 (List.map R81 l)] [some ⟨81, [(.int .i64 out.Number) :: ((List.map C36 out.Frame.toList) ++ (((List.map C3 out.States.toList) ++ ((.bool out.Sound) :: (.int .i64 out.Copies) :: (.bool out.Conflict) :: []))))]⟩] (.bool r.1) [some ⟨81, [(.int .i64 r.2.Number) :: ((List.map C36 r.2.Frame.toList) ++ (((List.map C3 r.2.States.toList) ++ ((.bool r.2.Sound) :: (.int .i64 r.2.Copies) :: (.bool r.2.Conflict) :: []))))]⟩] := by
 unfold salvage_ofSound at h
 replace h := bnd0 h
 refine gspec_of (by kernel_rfl) Tryd.func116 rfl rfl ?_
 intro w0 A W φ0
 refine T_seq (T_reg ?_)
 refine R_q _ rfl (v_assign (ov rfl)) ?_
 refine R_nil ?_
 refine T_joinG (fun j => (.inr j)) (t1 fun o => ⟨[], [some ⟨81, [(.int .i64 o.Number) :: ((List.map C36 o.Frame.toList) ++ (((List.map C3 o.States.toList) ++ ((.bool o.Sound) :: (.int .i64 o.Copies) :: (.bool o.Conflict) :: []))))]⟩]⟩) h (fun h => ?_) (fun j h => ?_)
 ·
  refine T_keep (kc 0 rfl <| kc 1 rfl <| kn) rfl ?_
  refine T_seq (T_reg ?_)
  refine R_q _ rfl (v_move (ov rfl)) ?_
  refine R_q _ rfl (v_len (slv_sl (ov rfl) tZ_81) tL75 (len_map _ _)) ?_
  refine R_q _ rfl (v_move (ov rfl)) ?_
  refine R_nil ?_
  refine T_block ?_
  obtain ⟨r1, hl1, ho1⟩ := bndL h
  refine T_loopG _ (t2 fun o2 i => ⟨[(0, .ptr 0 1 0 0), (9, .sl 81 (List.map R81 l)), (10, .int .i64 (l.length : Int)), (11, .int .i64 i)], [some ⟨81, [(.int .i64 o2.Number) :: ((List.map C36 o2.Frame.toList) ++ (((List.map C3 o2.States.toList) ++ ((.bool o2.Sound) :: (.int .i64 o2.Copies) :: (.bool o2.Conflict) :: []))))]⟩]⟩) _ hl1 (Ent.sel [some 0] (sr 0 rfl (.ptr _ _ _ rfl) <| sd 9 rfl rfl <| sd 10 rfl rfl <| sd 11 rfl rfl <| sn) (.cons rfl (ro1 (by exact Eq.trans (b := 132) (lnC (n := 131) (lnA (m := 64) (n := 67) arL (lnA (m := 64) (n := 3) arL (lnC (n := 2) (lnC (n := 1) (lnC (n := 0) (lnN))))))) tZ_81.symm) (rld (alC rfl (alA (arD fun _ => rfl) (alA (arD fun _ => rfl) (alC rfl (alC rfl (alC rfl (alN))))))))) <| .nil) rfl rfl) (fun n1 s1 h => ?_)
  obtain ⟨o2, i⟩ := s1
  replace h := t2i h
  refine t2T ?_
  unfold salvage_ofSound_L1 at h
  refine T_seq (T_reg ?_)
  refine R_q _ rfl (v_lss (ov rfl) (ov rfl)) ?_
  refine R_nil ?_
  refine T_seq ?_
  refine T_if h rfl (fun b12 h => ?_) (fun b12 h => ?_)
  ·
   refine T_skip ?_
   refine T_joinG (fun j => (.inr j)) (t1 fun o3 => ⟨[(0, .ptr 0 1 0 0), (9, .sl 81 (List.map R81 l)), (10, .int .i64 (l.length : Int)), (11, .int .i64 i)], [some ⟨81, [(.int .i64 o3.Number) :: ((List.map C36 o3.Frame.toList) ++ (((List.map C3 o3.States.toList) ++ ((.bool o3.Sound) :: (.int .i64 o3.Copies) :: (.bool o3.Conflict) :: []))))]⟩]⟩) h (fun h => ?_) (fun j h => ?_)
   ·
    refine T_block ?_
    refine T_keep (kc 0 rfl <| kc 9 rfl <| kc 10 rfl <| kc 11 rfl <| kn) rfl ?_
    refine T_seq (T_reg ?_)
    obtain ⟨x, h_x, h⟩ := bnd h
    refine R_q _ rfl (v_ixSG (ov rfl) (ov rfl) tL75 h_x) ?_
    refine R_q _ rfl (v_loadA_r (ov rfl) tA81 (at_sub (at_all (lnC (n := 131) (lnA (m := 64) (n := 67) arL (lnA (m := 64) (n := 3) arL (lnC (n := 2) (lnC (n := 1) (lnC (n := 0) (lnN))))))))) (lnC (n := 131) (lnA (m := 64) (n := 67) arL (lnA (m := 64) (n := 3) arL (lnC (n := 2) (lnC (n := 1) (lnC (n := 0) (lnN)))))))) ?_
    refine R_w _ _ rfl (w_alloc (row := (.int .i64 0) :: ((List.map C36 (Vector.replicate 64 0).toList) ++ (((List.map C3 (Vector.replicate 64 0).toList) ++ ((.bool false) :: (.int .i64 0) :: (.bool false) :: []))))) 1 rfl tZ81 (by kernel_rfl) (by exact Eq.symm (Eq.trans (b := 132) (lnC (n := 131) (lnA (m := 64) (n := 67) arL (lnA (m := 64) (n := 3) arL (lnC (n := 2) (lnC (n := 1) (lnC (n := 0) (lnN))))))) tZ_81.symm))) ?_
    refine R_w _ _ rfl (w_store (ov rfl) (ov rfl) (cells_agg tA81 (lnC (n := 131) (lnA (m := 64) (n := 67) arL (lnA (m := 64) (n := 3) arL (lnC (n := 2) (lnC (n := 1) (lnC (n := 0) (lnN)))))))) rfl rfl rfl (put_le (at_all (lnC (n := 131) (lnA (m := 64) (n := 67) arL (lnA (m := 64) (n := 3) arL (lnC (n := 2) (lnC (n := 1) (lnC (n := 0) (lnN)))))))) (lnC (n := 131) (lnA (m := 64) (n := 67) arL (lnA (m := 64) (n := 3) arL (lnC (n := 2) (lnC (n := 1) (lnC (n := 0) (lnN)))))))) (cell1_all (alC rfl (alA (arC fun _ => rfl) (alA (arC fun _ => rfl) (alC rfl (alC rfl (alC rfl (alN)))))))) (put_all (Eq.trans (lnC (n := 131) (lnA (m := 64) (n := 67) arL (lnA (m := 64) (n := 3) arL (lnC (n := 2) (lnC (n := 1) (lnC (n := 0) (lnN))))))) (Eq.symm (lnC (n := 131) (lnA (m := 64) (n := 67) arL (lnA (m := 64) (n := 3) arL (lnC (n := 2) (lnC (n := 1) (lnC (n := 0) (lnN))))))))))) ?_
    refine R_nil ?_
    refine T_seq ?_
    refine T_keep (kc 0 rfl <| kc 6 rfl <| kc 9 rfl <| kc 10 rfl <| kc 11 rfl <| kn) rfl ?_
    refine T_seq (T_reg ?_)
    refine R_q _ rfl (v_fieldP (ov rfl) rfl rfl tF81_3) ?_
    refine R_q _ rfl (v_loadS (ov rfl) rfl rfl rfl tS4 (at_get (atc (o := 128) (ata (m := 64) (o := 64) arL (ata (m := 64) (o := 0) arL (at0 (hdc (n := 0) hd0))))))) ?_
    refine R_q _ rfl (v_not (ov rfl)) ?_
    refine R_nil ?_
    refine T_keep (kc 0 rfl <| kc 6 rfl <| kc 9 rfl <| kc 10 rfl <| kc 11 rfl <| kc 17 rfl <| kn) rfl ?_
    refine T_if h rfl (fun b17 h => ?_) (fun b17 h => ?_)
    ·
     refine T_exit ?_
     exact ⟨o2, h, Ent.sel [some 0] (sr 0 rfl (.ptr _ _ _ rfl) <| sd 9 rfl rfl <| sd 10 rfl rfl <| sd 11 rfl rfl <| sn) (.cons rfl (ro1 (by exact Eq.trans (b := 132) (lnC (n := 131) (lnA (m := 64) (n := 67) arL (lnA (m := 64) (n := 3) arL (lnC (n := 2) (lnC (n := 1) (lnC (n := 0) (lnN))))))) tZ_81.symm) (rld (alC rfl (alA (arD fun _ => rfl) (alA (arD fun _ => rfl) (alC rfl (alC rfl (alC rfl (alN))))))))) <| .nil) rfl rfl⟩
    ·
     refine T_skip ?_
     refine T_seq ?_
     refine T_keep (kc 0 rfl <| kc 6 rfl <| kc 9 rfl <| kc 10 rfl <| kc 11 rfl <| kn) rfl ?_
     refine T_seq (T_draw (cw := md0) (by kernel_rfl) ?_)
     refine D_q0 0 _ rfl (by kernel_rfl) rfl rfl (v_move (ov rfl)) ?_
     refine D_q0 1 _ rfl (by kernel_rfl) rfl rfl (v_nilCheckP (ov rfl) rfl rfl) ?_
     refine D_q0 2 _ rfl (by kernel_rfl) rfl rfl (v_fieldP (ov rfl) rfl rfl tF81_3) ?_
     refine D_q0 3 _ rfl (by kernel_rfl) rfl rfl (v_loadS (ov rfl) rfl rfl rfl tS4 (at_get (atc (o := 128) (ata (m := 64) (o := 64) arL (ata (m := 64) (o := 0) arL (at0 (hdc (n := 0) hd0))))))) ?_
     refine D_q0 4 _ rfl (by kernel_rfl) rfl rfl (v_move (ov rfl)) ?_
     refine D_q0 5 _ rfl (by kernel_rfl) rfl rfl (.guarded (o2.Sound == true) rfl rfl rfl rfl fun h => v_move (ov rfl)) ?_
     refine D_q0 6 _ rfl (by kernel_rfl) rfl rfl (.guarded (o2.Sound == true) rfl rfl rfl rfl fun h => v_nilCheckP (ow rfl h) rfl rfl) ?_
     refine D_q0 7 _ rfl (by kernel_rfl) rfl rfl (.guarded (o2.Sound == true) rfl rfl rfl rfl fun h => v_fieldP (ow rfl h) rfl rfl tF81_1) ?_
     refine D_q0 8 _ rfl (by kernel_rfl) rfl rfl (.guarded (o2.Sound == true) rfl rfl rfl rfl fun h => v_loadA (ow rfl h) rfl rfl rfl tA38 (at_sub (atc (o := 0) (at0 (hdw arL)))) arL (hns := (nsM fun _ => rfl))) ?_
     refine D_q0 9 _ rfl (by kernel_rfl) rfl rfl (.guarded (o2.Sound == true) rfl rfl rfl rfl fun h => v_fieldP (ov rfl) rfl rfl tF81_1) ?_
     refine D_q0 10 _ rfl (by kernel_rfl) rfl rfl (.guarded (o2.Sound == true) rfl rfl rfl rfl fun h => v_loadA (ow rfl h) rfl rfl rfl tA38 (at_sub (atc (o := 0) (at0 (hdw arL)))) arL (hns := (nsM fun _ => rfl))) ?_
     refine D_q0 11 _ rfl (by kernel_rfl) rfl rfl (.guarded (o2.Sound == true) rfl rfl rfl rfl fun h => v_neqX tEq38 (ow rfl h) (ow rfl h) (.aggB (arD fun _ => rfl)) (.aggB (arD fun _ => rfl)) ((fkV fun _ => rfl)) ((fkV fun _ => rfl)) ((eqV fun _ _ => rfl))) ?_
     refine D_q0 12 _ rfl (by kernel_rfl) rfl rfl (v_and (ov rfl) (fun hp => ow rfl (gT hp))) ?_
     refine D_done (by kernel_rfl) ?_
     refine T_keep (kc 0 rfl <| kc 6 rfl <| kc 9 rfl <| kc 10 rfl <| kc 11 rfl <| kc 30 rfl <| kn) rfl ?_
     refine T_if h rfl (fun b30 h => ?_) (fun b30 h => ?_)
     ·
      refine T_keep (kn) rfl ?_
      refine T_seq (T_reg ?_)
      refine R_q _ rfl (v_assign (ov rfl)) ?_
      refine R_nil ?_
      rw [lx h] at ho1
      replace h := ho1
      obtain rfl := rt (v := (false, o2)) h
      refine T_ret ?_
      exact retg [some 0] rfl (.cons (.tmp rfl) <| .nil) (.cons rfl (ro1 (by exact Eq.trans (b := 132) (lnC (n := 131) (lnA (m := 64) (n := 67) arL (lnA (m := 64) (n := 3) arL (lnC (n := 2) (lnC (n := 1) (lnC (n := 0) (lnN))))))) tZ_81.symm) (rld (alC rfl (alA (arD fun _ => rfl) (alA (arD fun _ => rfl) (alC rfl (alC rfl (alC rfl (alN))))))))) <| .nil) rfl rfl (.dat rfl)
     ·
      refine T_skip ?_
      refine T_keep (kc 0 rfl <| kc 6 rfl <| kc 9 rfl <| kc 10 rfl <| kc 11 rfl <| kn) rfl ?_
      refine T_seq (T_draw (cw := md0) (by kernel_rfl) ?_)
      refine D_q0 0 _ rfl (by kernel_rfl) rfl rfl (v_move (ov rfl)) ?_
      refine D_q0 4 _ rfl (by kernel_rfl) rfl rfl (v_nilCheckP (ov rfl) rfl rfl) ?_
      refine D_q0 5 _ rfl (by kernel_rfl) rfl rfl (v_fieldP (ov rfl) rfl rfl tF81_3) ?_
      refine D_free 1 _ rfl (by kernel_rfl) rfl rfl (fun hp' => v_move (ov rfl)) ?_
      refine D_twoQ 2 6 rfl rfl (by kernel_rfl) rfl rfl rfl rfl (fun h => by cases h) (fun h => by cases h) (v_fieldP (ov rfl) rfl rfl tF81_1) (w_store (ov rfl) (ov rfl) (cells_scal tS4) rfl rfl rfl (put_le (atc (o := 128) (ata (m := 64) (o := 64) arL (ata (m := 64) (o := 0) arL (at0 (hdc (n := 0) hd0))))) rfl) (cell1_all rfl) (putc (o := 128) (puta (m := 64) (o := 64) arL (puta (m := 64) (o := 0) arL (put1))))) ?_ ?_
      ·
       refine D_twoQ 3 6 rfl rfl (by kernel_rfl) rfl rfl rfl rfl (fun h => by cases h) (fun h => by cases h) (v_loadA (ov rfl) rfl rfl rfl tA38 (at_sub (atc (o := 0) (at0 (hdw arL)))) arL (hns := (nsM fun _ => rfl))) (w_store (ov rfl) (ov rfl) (cells_scal tS4) rfl rfl rfl (put_le (atc (o := 128) (ata (m := 64) (o := 64) arL (ata (m := 64) (o := 0) arL (at0 (hdc (n := 0) hd0))))) rfl) (cell1_all rfl) (putc (o := 128) (puta (m := 64) (o := 64) arL (puta (m := 64) (o := 0) arL (put1))))) ?_ ?_
       ·
        refine D_one 6 _ _ rfl (by kernel_rfl) rfl rfl (fun h => by cases h) (fun h => by cases h) (w_store (ov rfl) (ov rfl) (cells_scal tS4) rfl rfl rfl (put_le (atc (o := 128) (ata (m := 64) (o := 64) arL (ata (m := 64) (o := 0) arL (at0 (hdc (n := 0) hd0))))) rfl) (cell1_all rfl) (putc (o := 128) (puta (m := 64) (o := 64) arL (puta (m := 64) (o := 0) arL (put1))))) ?_
        refine D_q0 7 _ rfl (by kernel_rfl) rfl rfl (v_nilCheckP (ov rfl) rfl rfl) ?_
        refine D_q0 8 _ rfl (by kernel_rfl) rfl rfl (v_fieldP (ov rfl) rfl rfl tF81_1) ?_
        refine D_one 9 _ _ rfl (by kernel_rfl) rfl rfl (fun h => by cases h) (fun h => by cases h) (w_store (ov rfl) (ov rfl) (cells_agg tA38 arL) rfl rfl rfl (put_le (atc (o := 0) (at0 (hdw arL))) arL) (cell1_all (arC fun _ => rfl)) (putc (o := 0) (putw (Eq.trans arL (Eq.symm arL))))) ?_
        refine D_done (by kernel_rfl) ?_
        refine T_keep (kc 0 rfl <| kc 6 rfl <| kc 9 rfl <| kc 10 rfl <| kc 11 rfl <| kn) rfl ?_
        refine T_seq (T_reg ?_)
        refine R_q _ rfl (v_fieldP (ov rfl) rfl rfl tF81_2) ?_
        refine R_q _ rfl (v_loadA (ov rfl) rfl rfl rfl tA79 (at_sub (atc (o := 64) (ata (m := 64) (o := 0) arL (at0 (hdw arL))))) arL (hns := (nsM fun _ => rfl))) ?_
        refine R_q _ rfl (v_move (ov rfl)) ?_
        refine R_nil ?_
        refine T_block ?_
        obtain ⟨r2, hl2, ho2⟩ := bnd h
        refine T_loopG _ (t2 fun States i2 => ⟨[(0, .ptr 0 1 0 0), (9, .sl 81 (List.map R81 l)), (10, .int .i64 (l.length : Int)), (11, .int .i64 i), (40, .agg (List.map C3 x.States.toList)), (41, .int .i64 i2)], [some ⟨81, [(.int .i64 o2.Number) :: ((List.map C36 x.Frame.toList) ++ (((List.map C3 States.toList) ++ ((.bool true) :: (.int .i64 o2.Copies) :: (.bool o2.Conflict) :: []))))]⟩]⟩) _ hl2 (Ent.sel [some 0] (sr 0 rfl (.ptr _ _ _ rfl) <| sd 9 rfl rfl <| sd 10 rfl rfl <| sd 11 rfl rfl <| sr 40 rfl (rAgg (rld (arD fun _ => rfl))) <| sd 41 rfl rfl <| sn) (.cons rfl (ro1 (by exact Eq.trans (b := 132) (lnC (n := 131) (lnA (m := 64) (n := 67) arL (lnA (m := 64) (n := 3) arL (lnC (n := 2) (lnC (n := 1) (lnC (n := 0) (lnN))))))) tZ_81.symm) (rld (alC rfl (alA (arD fun _ => rfl) (alA (arD fun _ => rfl) (alC rfl (alC rfl (alC rfl (alN))))))))) <| .nil) rfl rfl) (fun n2 s2 h => ?_)
        obtain ⟨States, i2⟩ := s2
        replace h := t2i h
        refine t2T ?_
        unfold salvage_ofSound_L2 at h
        refine T_seq (T_reg ?_)
        refine R_q _ rfl (v_lss (ov rfl) (ov rfl)) ?_
        refine R_nil ?_
        refine T_seq ?_
        refine T_if h rfl (fun b42 h => ?_) (fun b42 h => ?_)
        ·
         refine T_skip ?_
         refine T_seq ?_
         refine T_block ?_
         refine T_keep (kc 0 rfl <| kc 9 rfl <| kc 10 rfl <| kc 11 rfl <| kc 40 rfl <| kc 41 rfl <| kn) rfl ?_
         refine T_seq (T_reg ?_)
         refine R_q _ rfl (v_move (ov rfl)) ?_
         obtain ⟨x2, h_x2, h⟩ := bnd h
         refine R_q _ rfl (v_indexVG (ov rfl) (ov rfl) tR79 tS3 h_x2) ?_
         refine R_q _ rfl (v_assign (ov rfl)) ?_
         refine R_q _ rfl (v_assign (ov rfl)) ?_
         refine R_nil ?_
         refine T_keep (kc 0 rfl <| kc 7 rfl <| kc 8 rfl <| kc 9 rfl <| kc 10 rfl <| kc 11 rfl <| kc 40 rfl <| kc 41 rfl <| kn) rfl ?_
         refine T_draw (cw := md0) (by kernel_rfl) ?_
         refine D_q0 0 _ rfl (by kernel_rfl) rfl rfl (v_move (ov rfl)) ?_
         refine D_q0 1 _ rfl (by kernel_rfl) rfl rfl (v_move (ov rfl)) ?_
         refine D_q0 2 _ rfl (by kernel_rfl) rfl rfl (v_move (ov rfl)) ?_
         refine D_q0 3 _ rfl (by kernel_rfl) rfl rfl (v_move (ov rfl)) ?_
         refine D_q0 4 _ rfl (by kernel_rfl) rfl rfl (v_nilCheckP (ov rfl) rfl rfl) ?_
         refine D_q0 5 _ rfl (by kernel_rfl) rfl rfl (v_fieldP (ov rfl) rfl rfl tF81_2) ?_
         obtain ⟨x3, h_x3, h⟩ := bnd h
         refine D_q0 6 _ rfl (by kernel_rfl) rfl rfl (v_ixAG (ov rfl) (ov rfl) tR79 rfl rfl h_x3) ?_
         refine D_q0 7 _ rfl (by kernel_rfl) rfl rfl (v_loadS (ov rfl) rfl rfl rfl tS3 (at_get (at_at (o := 65) (o' := (i2.toNat * 1)) (atc (o := 64) (ata (m := 64) (o := 0) arL (at0 (hdw arL)))) (at_v1 h_x3)))) ?_
         refine D_q0 8 _ rfl (by kernel_rfl) rfl rfl (v_move (ov rfl)) ?_
         refine D_q0 9 _ rfl (by kernel_rfl) rfl rfl (v_max (ov rfl) (ov rfl) rfl) ?_
         refine D_q0 10 _ rfl (by kernel_rfl) rfl rfl (v_nilCheckP (ov rfl) rfl rfl) ?_
         refine D_q0 11 _ rfl (by kernel_rfl) rfl rfl (v_fieldP (ov rfl) rfl rfl tF81_2) ?_
         obtain ⟨x4, h_x4, h⟩ := bnd h
         refine D_q0 12 _ rfl (by kernel_rfl) rfl rfl (v_ixAG (ov rfl) (ov rfl) tR79 rfl rfl h_x4) ?_
         refine D_one 13 _ _ rfl (by kernel_rfl) rfl rfl (fun h => by cases h) (fun h => by cases h) (w_store (ov rfl) (ov rfl) (cells_scal tS3) rfl rfl rfl (put_le (at_at (o := 65) (o' := (i2.toNat * 1)) (atc (o := 64) (ata (m := 64) (o := 0) arL (at0 (hdw arL)))) (at_v1 h_x4)) rfl) (cell1_all rfl) (put_put (o := 65) (o' := (i2.toNat * 1)) (atc (o := 64) (ata (m := 64) (o := 0) arL (at0 (hdw arL)))) (at_v1 h_x4) rfl (put_v1 h_x4 (x := (max x3 x2))) (putc (o := 64) (puta (m := 64) (o := 0) arL (putw (Eq.trans arL (Eq.symm arL))))))) ?_
         refine D_done (by kernel_rfl) ?_
         refine T_keep (kc 0 rfl <| kc 9 rfl <| kc 10 rfl <| kc 11 rfl <| kc 40 rfl <| kc 41 rfl <| kn) rfl ?_
         refine T_reg ?_
         refine R_q _ rfl (v_add (ov rfl) (ov rfl) rfl) ?_
         refine R_q _ rfl (v_move (ov rfl)) ?_
         refine R_nil ?_
         exact ⟨((vset States i2 (max x3 x2)), (i64 (i2 + 1))), h, Ent.sel [some 0] (sr 0 rfl (.ptr _ _ _ rfl) <| sd 9 rfl rfl <| sd 10 rfl rfl <| sd 11 rfl rfl <| sr 40 rfl (rAgg (rld (arD fun _ => rfl))) <| sd 41 rfl rfl <| sn) (.cons rfl (ro1 (by exact Eq.trans (b := 132) (lnC (n := 131) (lnA (m := 64) (n := 67) arL (lnA (m := 64) (n := 3) arL (lnC (n := 2) (lnC (n := 1) (lnC (n := 0) (lnN))))))) tZ_81.symm) (rld (alC rfl (alA (arD fun _ => rfl) (alA (arD fun _ => rfl) (alC rfl (alC rfl (alC rfl (alN))))))))) <| .nil) rfl rfl⟩
        ·
         refine T_exit ?_
         rw [lx h] at ho2
         replace h := ho2
         exact ⟨(api_Rest.mk o2.Number x.Frame States true o2.Copies o2.Conflict), h, Ent.sel [some 0] (sr 0 rfl (.ptr _ _ _ rfl) <| sd 9 rfl rfl <| sd 10 rfl rfl <| sd 11 rfl rfl <| sn) (.cons rfl (ro1 (by exact Eq.trans (b := 132) (lnC (n := 131) (lnA (m := 64) (n := 67) arL (lnA (m := 64) (n := 3) arL (lnC (n := 2) (lnC (n := 1) (lnC (n := 0) (lnN))))))) tZ_81.symm) (rld (alC rfl (alA (arD fun _ => rfl) (alA (arD fun _ => rfl) (alC rfl (alC rfl (alC rfl (alN))))))))) <| .nil) rfl rfl⟩
       ·
        refine D_q0 3 _ rfl (by kernel_rfl) rfl rfl (v_loadA (ov rfl) rfl rfl rfl tA38 (at_sub (atc (o := 0) (at0 (hdw arL)))) arL (hns := (nsM fun _ => rfl))) ?_
        refine D_q0 7 _ rfl (by kernel_rfl) rfl rfl (v_nilCheckP (ov rfl) rfl rfl) ?_
        refine D_q0 8 _ rfl (by kernel_rfl) rfl rfl (v_fieldP (ov rfl) rfl rfl tF81_1) ?_
        refine D_one 9 _ _ rfl (by kernel_rfl) rfl rfl (fun h => by cases h) (fun h => by cases h) (w_store (ov rfl) (ov rfl) (cells_agg tA38 arL) rfl rfl rfl (put_le (atc (o := 0) (at0 (hdw arL))) arL) (cell1_all (arC fun _ => rfl)) (putc (o := 0) (putw (Eq.trans arL (Eq.symm arL))))) ?_
        refine D_done (by kernel_rfl) ?_
        refine T_keep (kc 0 rfl <| kc 6 rfl <| kc 9 rfl <| kc 10 rfl <| kc 11 rfl <| kn) rfl ?_
        refine T_seq (T_reg ?_)
        refine R_q _ rfl (v_fieldP (ov rfl) rfl rfl tF81_2) ?_
        refine R_q _ rfl (v_loadA (ov rfl) rfl rfl rfl tA79 (at_sub (atc (o := 64) (ata (m := 64) (o := 0) arL (at0 (hdw arL))))) arL (hns := (nsM fun _ => rfl))) ?_
        refine R_q _ rfl (v_move (ov rfl)) ?_
        refine R_nil ?_
        refine T_block ?_
        obtain ⟨r2, hl2, ho2⟩ := bnd h
        refine T_loopG _ (t2 fun States i2 => ⟨[(0, .ptr 0 1 0 0), (9, .sl 81 (List.map R81 l)), (10, .int .i64 (l.length : Int)), (11, .int .i64 i), (40, .agg (List.map C3 x.States.toList)), (41, .int .i64 i2)], [some ⟨81, [(.int .i64 o2.Number) :: ((List.map C36 x.Frame.toList) ++ (((List.map C3 States.toList) ++ ((.bool true) :: (.int .i64 o2.Copies) :: (.bool o2.Conflict) :: []))))]⟩]⟩) _ hl2 (Ent.sel [some 0] (sr 0 rfl (.ptr _ _ _ rfl) <| sd 9 rfl rfl <| sd 10 rfl rfl <| sd 11 rfl rfl <| sr 40 rfl (rAgg (rld (arD fun _ => rfl))) <| sd 41 rfl rfl <| sn) (.cons rfl (ro1 (by exact Eq.trans (b := 132) (lnC (n := 131) (lnA (m := 64) (n := 67) arL (lnA (m := 64) (n := 3) arL (lnC (n := 2) (lnC (n := 1) (lnC (n := 0) (lnN))))))) tZ_81.symm) (rld (alC rfl (alA (arD fun _ => rfl) (alA (arD fun _ => rfl) (alC rfl (alC rfl (alC rfl (alN))))))))) <| .nil) rfl rfl) (fun n2 s2 h => ?_)
        obtain ⟨States, i2⟩ := s2
        replace h := t2i h
        refine t2T ?_
        unfold salvage_ofSound_L2 at h
        refine T_seq (T_reg ?_)
        refine R_q _ rfl (v_lss (ov rfl) (ov rfl)) ?_
        refine R_nil ?_
        refine T_seq ?_
        refine T_if h rfl (fun b42 h => ?_) (fun b42 h => ?_)
        ·
         refine T_skip ?_
         refine T_seq ?_
         refine T_block ?_
         refine T_keep (kc 0 rfl <| kc 9 rfl <| kc 10 rfl <| kc 11 rfl <| kc 40 rfl <| kc 41 rfl <| kn) rfl ?_
         refine T_seq (T_reg ?_)
         refine R_q _ rfl (v_move (ov rfl)) ?_
         obtain ⟨x2, h_x2, h⟩ := bnd h
         refine R_q _ rfl (v_indexVG (ov rfl) (ov rfl) tR79 tS3 h_x2) ?_
         refine R_q _ rfl (v_assign (ov rfl)) ?_
         refine R_q _ rfl (v_assign (ov rfl)) ?_
         refine R_nil ?_
         refine T_keep (kc 0 rfl <| kc 7 rfl <| kc 8 rfl <| kc 9 rfl <| kc 10 rfl <| kc 11 rfl <| kc 40 rfl <| kc 41 rfl <| kn) rfl ?_
         refine T_draw (cw := md0) (by kernel_rfl) ?_
         refine D_q0 0 _ rfl (by kernel_rfl) rfl rfl (v_move (ov rfl)) ?_
         refine D_q0 1 _ rfl (by kernel_rfl) rfl rfl (v_move (ov rfl)) ?_
         refine D_q0 2 _ rfl (by kernel_rfl) rfl rfl (v_move (ov rfl)) ?_
         refine D_q0 3 _ rfl (by kernel_rfl) rfl rfl (v_move (ov rfl)) ?_
         refine D_q0 4 _ rfl (by kernel_rfl) rfl rfl (v_nilCheckP (ov rfl) rfl rfl) ?_
         refine D_q0 5 _ rfl (by kernel_rfl) rfl rfl (v_fieldP (ov rfl) rfl rfl tF81_2) ?_
         obtain ⟨x3, h_x3, h⟩ := bnd h
         refine D_q0 6 _ rfl (by kernel_rfl) rfl rfl (v_ixAG (ov rfl) (ov rfl) tR79 rfl rfl h_x3) ?_
         refine D_q0 7 _ rfl (by kernel_rfl) rfl rfl (v_loadS (ov rfl) rfl rfl rfl tS3 (at_get (at_at (o := 65) (o' := (i2.toNat * 1)) (atc (o := 64) (ata (m := 64) (o := 0) arL (at0 (hdw arL)))) (at_v1 h_x3)))) ?_
         refine D_q0 8 _ rfl (by kernel_rfl) rfl rfl (v_move (ov rfl)) ?_
         refine D_q0 9 _ rfl (by kernel_rfl) rfl rfl (v_max (ov rfl) (ov rfl) rfl) ?_
         refine D_q0 10 _ rfl (by kernel_rfl) rfl rfl (v_nilCheckP (ov rfl) rfl rfl) ?_
         refine D_q0 11 _ rfl (by kernel_rfl) rfl rfl (v_fieldP (ov rfl) rfl rfl tF81_2) ?_
         obtain ⟨x4, h_x4, h⟩ := bnd h
         refine D_q0 12 _ rfl (by kernel_rfl) rfl rfl (v_ixAG (ov rfl) (ov rfl) tR79 rfl rfl h_x4) ?_
         refine D_one 13 _ _ rfl (by kernel_rfl) rfl rfl (fun h => by cases h) (fun h => by cases h) (w_store (ov rfl) (ov rfl) (cells_scal tS3) rfl rfl rfl (put_le (at_at (o := 65) (o' := (i2.toNat * 1)) (atc (o := 64) (ata (m := 64) (o := 0) arL (at0 (hdw arL)))) (at_v1 h_x4)) rfl) (cell1_all rfl) (put_put (o := 65) (o' := (i2.toNat * 1)) (atc (o := 64) (ata (m := 64) (o := 0) arL (at0 (hdw arL)))) (at_v1 h_x4) rfl (put_v1 h_x4 (x := (max x3 x2))) (putc (o := 64) (puta (m := 64) (o := 0) arL (putw (Eq.trans arL (Eq.symm arL))))))) ?_
         refine D_done (by kernel_rfl) ?_
         refine T_keep (kc 0 rfl <| kc 9 rfl <| kc 10 rfl <| kc 11 rfl <| kc 40 rfl <| kc 41 rfl <| kn) rfl ?_
         refine T_reg ?_
         refine R_q _ rfl (v_add (ov rfl) (ov rfl) rfl) ?_
         refine R_q _ rfl (v_move (ov rfl)) ?_
         refine R_nil ?_
         exact ⟨((vset States i2 (max x3 x2)), (i64 (i2 + 1))), h, Ent.sel [some 0] (sr 0 rfl (.ptr _ _ _ rfl) <| sd 9 rfl rfl <| sd 10 rfl rfl <| sd 11 rfl rfl <| sr 40 rfl (rAgg (rld (arD fun _ => rfl))) <| sd 41 rfl rfl <| sn) (.cons rfl (ro1 (by exact Eq.trans (b := 132) (lnC (n := 131) (lnA (m := 64) (n := 67) arL (lnA (m := 64) (n := 3) arL (lnC (n := 2) (lnC (n := 1) (lnC (n := 0) (lnN))))))) tZ_81.symm) (rld (alC rfl (alA (arD fun _ => rfl) (alA (arD fun _ => rfl) (alC rfl (alC rfl (alC rfl (alN))))))))) <| .nil) rfl rfl⟩
        ·
         refine T_exit ?_
         rw [lx h] at ho2
         replace h := ho2
         exact ⟨(api_Rest.mk o2.Number x.Frame States true o2.Copies o2.Conflict), h, Ent.sel [some 0] (sr 0 rfl (.ptr _ _ _ rfl) <| sd 9 rfl rfl <| sd 10 rfl rfl <| sd 11 rfl rfl <| sn) (.cons rfl (ro1 (by exact Eq.trans (b := 132) (lnC (n := 131) (lnA (m := 64) (n := 67) arL (lnA (m := 64) (n := 3) arL (lnC (n := 2) (lnC (n := 1) (lnC (n := 0) (lnN))))))) tZ_81.symm) (rld (alC rfl (alA (arD fun _ => rfl) (alA (arD fun _ => rfl) (alC rfl (alC rfl (alC rfl (alN))))))))) <| .nil) rfl rfl⟩
      ·
       refine D_q0 2 _ rfl (by kernel_rfl) rfl rfl (v_fieldP (ov rfl) rfl rfl tF81_1) ?_
       refine D_q0 3 _ rfl (by kernel_rfl) rfl rfl (v_loadA (ov rfl) rfl rfl rfl tA38 (at_sub (atc (o := 0) (at0 (hdw arL)))) arL (hns := (nsM fun _ => rfl))) ?_
       refine D_q0 7 _ rfl (by kernel_rfl) rfl rfl (v_nilCheckP (ov rfl) rfl rfl) ?_
       refine D_q0 8 _ rfl (by kernel_rfl) rfl rfl (v_fieldP (ov rfl) rfl rfl tF81_1) ?_
       refine D_one 9 _ _ rfl (by kernel_rfl) rfl rfl (fun h => by cases h) (fun h => by cases h) (w_store (ov rfl) (ov rfl) (cells_agg tA38 arL) rfl rfl rfl (put_le (atc (o := 0) (at0 (hdw arL))) arL) (cell1_all (arC fun _ => rfl)) (putc (o := 0) (putw (Eq.trans arL (Eq.symm arL))))) ?_
       refine D_done (by kernel_rfl) ?_
       refine T_keep (kc 0 rfl <| kc 6 rfl <| kc 9 rfl <| kc 10 rfl <| kc 11 rfl <| kn) rfl ?_
       refine T_seq (T_reg ?_)
       refine R_q _ rfl (v_fieldP (ov rfl) rfl rfl tF81_2) ?_
       refine R_q _ rfl (v_loadA (ov rfl) rfl rfl rfl tA79 (at_sub (atc (o := 64) (ata (m := 64) (o := 0) arL (at0 (hdw arL))))) arL (hns := (nsM fun _ => rfl))) ?_
       refine R_q _ rfl (v_move (ov rfl)) ?_
       refine R_nil ?_
       refine T_block ?_
       obtain ⟨r2, hl2, ho2⟩ := bnd h
       refine T_loopG _ (t2 fun States i2 => ⟨[(0, .ptr 0 1 0 0), (9, .sl 81 (List.map R81 l)), (10, .int .i64 (l.length : Int)), (11, .int .i64 i), (40, .agg (List.map C3 x.States.toList)), (41, .int .i64 i2)], [some ⟨81, [(.int .i64 o2.Number) :: ((List.map C36 x.Frame.toList) ++ (((List.map C3 States.toList) ++ ((.bool true) :: (.int .i64 o2.Copies) :: (.bool o2.Conflict) :: []))))]⟩]⟩) _ hl2 (Ent.sel [some 0] (sr 0 rfl (.ptr _ _ _ rfl) <| sd 9 rfl rfl <| sd 10 rfl rfl <| sd 11 rfl rfl <| sr 40 rfl (rAgg (rld (arD fun _ => rfl))) <| sd 41 rfl rfl <| sn) (.cons rfl (ro1 (by exact Eq.trans (b := 132) (lnC (n := 131) (lnA (m := 64) (n := 67) arL (lnA (m := 64) (n := 3) arL (lnC (n := 2) (lnC (n := 1) (lnC (n := 0) (lnN))))))) tZ_81.symm) (rld (alC rfl (alA (arD fun _ => rfl) (alA (arD fun _ => rfl) (alC rfl (alC rfl (alC rfl (alN))))))))) <| .nil) rfl rfl) (fun n2 s2 h => ?_)
       obtain ⟨States, i2⟩ := s2
       replace h := t2i h
       refine t2T ?_
       unfold salvage_ofSound_L2 at h
       refine T_seq (T_reg ?_)
       refine R_q _ rfl (v_lss (ov rfl) (ov rfl)) ?_
       refine R_nil ?_
       refine T_seq ?_
       refine T_if h rfl (fun b42 h => ?_) (fun b42 h => ?_)
       ·
        refine T_skip ?_
        refine T_seq ?_
        refine T_block ?_
        refine T_keep (kc 0 rfl <| kc 9 rfl <| kc 10 rfl <| kc 11 rfl <| kc 40 rfl <| kc 41 rfl <| kn) rfl ?_
        refine T_seq (T_reg ?_)
        refine R_q _ rfl (v_move (ov rfl)) ?_
        obtain ⟨x2, h_x2, h⟩ := bnd h
        refine R_q _ rfl (v_indexVG (ov rfl) (ov rfl) tR79 tS3 h_x2) ?_
        refine R_q _ rfl (v_assign (ov rfl)) ?_
        refine R_q _ rfl (v_assign (ov rfl)) ?_
        refine R_nil ?_
        refine T_keep (kc 0 rfl <| kc 7 rfl <| kc 8 rfl <| kc 9 rfl <| kc 10 rfl <| kc 11 rfl <| kc 40 rfl <| kc 41 rfl <| kn) rfl ?_
        refine T_draw (cw := md0) (by kernel_rfl) ?_
        refine D_q0 0 _ rfl (by kernel_rfl) rfl rfl (v_move (ov rfl)) ?_
        refine D_q0 1 _ rfl (by kernel_rfl) rfl rfl (v_move (ov rfl)) ?_
        refine D_q0 2 _ rfl (by kernel_rfl) rfl rfl (v_move (ov rfl)) ?_
        refine D_q0 3 _ rfl (by kernel_rfl) rfl rfl (v_move (ov rfl)) ?_
        refine D_q0 4 _ rfl (by kernel_rfl) rfl rfl (v_nilCheckP (ov rfl) rfl rfl) ?_
        refine D_q0 5 _ rfl (by kernel_rfl) rfl rfl (v_fieldP (ov rfl) rfl rfl tF81_2) ?_
        obtain ⟨x3, h_x3, h⟩ := bnd h
        refine D_q0 6 _ rfl (by kernel_rfl) rfl rfl (v_ixAG (ov rfl) (ov rfl) tR79 rfl rfl h_x3) ?_
        refine D_q0 7 _ rfl (by kernel_rfl) rfl rfl (v_loadS (ov rfl) rfl rfl rfl tS3 (at_get (at_at (o := 65) (o' := (i2.toNat * 1)) (atc (o := 64) (ata (m := 64) (o := 0) arL (at0 (hdw arL)))) (at_v1 h_x3)))) ?_
        refine D_q0 8 _ rfl (by kernel_rfl) rfl rfl (v_move (ov rfl)) ?_
        refine D_q0 9 _ rfl (by kernel_rfl) rfl rfl (v_max (ov rfl) (ov rfl) rfl) ?_
        refine D_q0 10 _ rfl (by kernel_rfl) rfl rfl (v_nilCheckP (ov rfl) rfl rfl) ?_
        refine D_q0 11 _ rfl (by kernel_rfl) rfl rfl (v_fieldP (ov rfl) rfl rfl tF81_2) ?_
        obtain ⟨x4, h_x4, h⟩ := bnd h
        refine D_q0 12 _ rfl (by kernel_rfl) rfl rfl (v_ixAG (ov rfl) (ov rfl) tR79 rfl rfl h_x4) ?_
        refine D_one 13 _ _ rfl (by kernel_rfl) rfl rfl (fun h => by cases h) (fun h => by cases h) (w_store (ov rfl) (ov rfl) (cells_scal tS3) rfl rfl rfl (put_le (at_at (o := 65) (o' := (i2.toNat * 1)) (atc (o := 64) (ata (m := 64) (o := 0) arL (at0 (hdw arL)))) (at_v1 h_x4)) rfl) (cell1_all rfl) (put_put (o := 65) (o' := (i2.toNat * 1)) (atc (o := 64) (ata (m := 64) (o := 0) arL (at0 (hdw arL)))) (at_v1 h_x4) rfl (put_v1 h_x4 (x := (max x3 x2))) (putc (o := 64) (puta (m := 64) (o := 0) arL (putw (Eq.trans arL (Eq.symm arL))))))) ?_
        refine D_done (by kernel_rfl) ?_
        refine T_keep (kc 0 rfl <| kc 9 rfl <| kc 10 rfl <| kc 11 rfl <| kc 40 rfl <| kc 41 rfl <| kn) rfl ?_
        refine T_reg ?_
        refine R_q _ rfl (v_add (ov rfl) (ov rfl) rfl) ?_
        refine R_q _ rfl (v_move (ov rfl)) ?_
        refine R_nil ?_
        exact ⟨((vset States i2 (max x3 x2)), (i64 (i2 + 1))), h, Ent.sel [some 0] (sr 0 rfl (.ptr _ _ _ rfl) <| sd 9 rfl rfl <| sd 10 rfl rfl <| sd 11 rfl rfl <| sr 40 rfl (rAgg (rld (arD fun _ => rfl))) <| sd 41 rfl rfl <| sn) (.cons rfl (ro1 (by exact Eq.trans (b := 132) (lnC (n := 131) (lnA (m := 64) (n := 67) arL (lnA (m := 64) (n := 3) arL (lnC (n := 2) (lnC (n := 1) (lnC (n := 0) (lnN))))))) tZ_81.symm) (rld (alC rfl (alA (arD fun _ => rfl) (alA (arD fun _ => rfl) (alC rfl (alC rfl (alC rfl (alN))))))))) <| .nil) rfl rfl⟩
       ·
        refine T_exit ?_
        rw [lx h] at ho2
        replace h := ho2
        exact ⟨(api_Rest.mk o2.Number x.Frame States true o2.Copies o2.Conflict), h, Ent.sel [some 0] (sr 0 rfl (.ptr _ _ _ rfl) <| sd 9 rfl rfl <| sd 10 rfl rfl <| sd 11 rfl rfl <| sn) (.cons rfl (ro1 (by exact Eq.trans (b := 132) (lnC (n := 131) (lnA (m := 64) (n := 67) arL (lnA (m := 64) (n := 3) arL (lnC (n := 2) (lnC (n := 1) (lnC (n := 0) (lnN))))))) tZ_81.symm) (rld (alC rfl (alA (arD fun _ => rfl) (alA (arD fun _ => rfl) (alC rfl (alC rfl (alC rfl (alN))))))))) <| .nil) rfl rfl⟩
   ·
    replace h := elr h
    obtain ⟨o3, rfl⟩ : ∃ x, x = j := ⟨_, rfl⟩
    replace h := t1i h
    refine t1T ?_
    refine T_reg ?_
    refine R_q _ rfl (v_add (ov rfl) (ov rfl) rfl) ?_
    refine R_q _ rfl (v_move (ov rfl)) ?_
    refine R_nil ?_
    exact ⟨(o3, (i64 (i + 1))), h, Ent.sel [some 0] (sr 0 rfl (.ptr _ _ _ rfl) <| sd 9 rfl rfl <| sd 10 rfl rfl <| sd 11 rfl rfl <| sn) (.cons rfl (ro1 (by exact Eq.trans (b := 132) (lnC (n := 131) (lnA (m := 64) (n := 67) arL (lnA (m := 64) (n := 3) arL (lnC (n := 2) (lnC (n := 1) (lnC (n := 0) (lnN))))))) tZ_81.symm) (rld (alC rfl (alA (arD fun _ => rfl) (alA (arD fun _ => rfl) (alC rfl (alC rfl (alC rfl (alN))))))))) <| .nil) rfl rfl⟩
  ·
   refine T_exit ?_
   rw [lx h] at ho1
   replace h := ho1
   exact ⟨o2, h, Ent.sel [some 0] (sn) (.cons rfl (ro1 (by exact Eq.trans (b := 132) (lnC (n := 131) (lnA (m := 64) (n := 67) arL (lnA (m := 64) (n := 3) arL (lnC (n := 2) (lnC (n := 1) (lnC (n := 0) (lnN))))))) tZ_81.symm) (rld (alC rfl (alA (arD fun _ => rfl) (alA (arD fun _ => rfl) (alC rfl (alC rfl (alC rfl (alN))))))))) <| .nil) rfl rfl⟩
 ·
  replace h := elr h
  obtain ⟨o, rfl⟩ : ∃ x, x = j := ⟨_, rfl⟩
  replace h := t1i h
  refine t1T ?_
  refine T_seq (T_reg ?_)
  refine R_q _ rfl (v_assign (ov rfl)) ?_
  refine R_nil ?_
  obtain rfl := rt (v := (true, o)) h
  refine T_ret ?_
  exact retg [some 0] rfl (.cons (.tmp rfl) <| .nil) (.cons rfl (ro1 (by exact Eq.trans (b := 132) (lnC (n := 131) (lnA (m := 64) (n := 67) arL (lnA (m := 64) (n := 3) arL (lnC (n := 2) (lnC (n := 1) (lnC (n := 0) (lnN))))))) tZ_81.symm) (rld (alC rfl (alA (arD fun _ => rfl) (alA (arD fun _ => rfl) (alC rfl (alC rfl (alC rfl (alN))))))))) <| .nil) rfl rfl (.dat rfl)

theorem ok_salvage_ofParts_w {out : api_Rest} {l : List api_Rest} {r : api_Rest} (h : salvage_ofParts out l = some r) :
  GSpec Tryd.prog gl0 117 [.ptr 0 1 0 0, .sl 81 (List.map R81 l)] [some ⟨81, [(.int .i64 out.Number) :: ((List.map C36 out.Frame.toList) ++ (((List.map C3 out.States.toList) ++ ((.bool out.Sound) :: (.int .i64 out.Copies) :: (.bool out.Conflict) :: []))))]⟩] (.tuple []) [some ⟨81, [(.int .i64 r.Number) :: ((List.map C36 r.Frame.toList) ++ (((List.map C3 r.States.toList) ++ ((.bool r.Sound) :: (.int .i64 r.Copies) :: (.bool r.Conflict) :: []))))]⟩] := by
 unfold salvage_ofParts at h
 replace h := bnd0 h
 refine gspec_of (by kernel_rfl) Tryd.func117 rfl rfl ?_
 intro w0 A W φ0
 refine T_seq (T_reg ?_)
 refine R_q _ rfl (v_move (ov rfl)) ?_
 refine R_nil ?_
 refine T_block ?_
 obtain ⟨r1, hl1, ho1⟩ := bndL h
 refine T_loopG _ (t2 fun o i => ⟨[(0, .ptr 0 1 0 0), (1, .sl 81 (List.map R81 l)), (8, .int .i64 i)], [some ⟨81, [(.int .i64 o.Number) :: ((List.map C36 o.Frame.toList) ++ (((List.map C3 o.States.toList) ++ ((.bool o.Sound) :: (.int .i64 o.Copies) :: (.bool o.Conflict) :: []))))]⟩]⟩) _ hl1 (Ent.sel [some 0] (sr 0 rfl (.ptr _ _ _ rfl) <| sd 1 rfl rfl <| sd 8 rfl rfl <| sn) (.cons rfl (ro1 (by exact Eq.trans (b := 132) (lnC (n := 131) (lnA (m := 64) (n := 67) arL (lnA (m := 64) (n := 3) arL (lnC (n := 2) (lnC (n := 1) (lnC (n := 0) (lnN))))))) tZ_81.symm) (rld (alC rfl (alA (arD fun _ => rfl) (alA (arD fun _ => rfl) (alC rfl (alC rfl (alC rfl (alN))))))))) <| .nil) rfl rfl) (fun n1 s1 h => ?_)
 obtain ⟨o, i⟩ := s1
 replace h := t2i h
 refine t2T ?_
 unfold salvage_ofParts_L1 at h
 refine T_seq (T_reg ?_)
 refine R_q _ rfl (v_lss (ov rfl) (ov rfl)) ?_
 refine R_nil ?_
 refine T_seq ?_
 refine T_if h rfl (fun b9 h => ?_) (fun b9 h => ?_)
 ·
  refine T_skip ?_
  refine T_joinG id (t1 fun o2 => ⟨[(0, .ptr 0 1 0 0), (1, .sl 81 (List.map R81 l)), (8, .int .i64 i)], [some ⟨81, [(.int .i64 o2.Number) :: ((List.map C36 o2.Frame.toList) ++ (((List.map C3 o2.States.toList) ++ ((.bool o2.Sound) :: (.int .i64 o2.Copies) :: (.bool o2.Conflict) :: []))))]⟩]⟩) h (fun h => ?_) (fun j h => ?_)
  ·
   refine T_block ?_
   refine T_keep (kc 0 rfl <| kc 1 rfl <| kc 8 rfl <| kn) rfl ?_
   refine T_seq (T_reg ?_)
   refine R_q _ rfl (v_move (ov rfl)) ?_
   refine R_q _ rfl (v_assign (ov rfl)) ?_
   refine R_nil ?_
   refine T_keep (kc 0 rfl <| kc 1 rfl <| kc 4 rfl <| kc 8 rfl <| kn) rfl ?_
   refine T_seq (T_reg ?_)
   refine R_q _ rfl (v_assign (ov rfl)) ?_
   refine R_nil ?_
   refine T_joinG id (t2 fun o3 differ => ⟨[(0, .ptr 0 1 0 0), (1, .sl 81 (List.map R81 l)), (4, .int .i64 i), (5, .bool differ), (8, .int .i64 i)], [some ⟨81, [(.int .i64 o3.Number) :: ((List.map C36 o3.Frame.toList) ++ (((List.map C3 o3.States.toList) ++ ((.bool o3.Sound) :: (.int .i64 o3.Copies) :: (.bool o3.Conflict) :: []))))]⟩]⟩) h (fun h => ?_) (fun j h => ?_)
   ·
    refine T_seq (T_reg ?_)
    refine R_q _ rfl (v_move (ov rfl)) ?_
    refine R_q _ rfl (v_len (slv_sl (ov rfl) tZ_81) tL75 (len_map _ _)) ?_
    refine R_q _ rfl (v_move (ov rfl)) ?_
    refine R_nil ?_
    refine T_block ?_
    obtain ⟨r2, hl2, ho2⟩ := bndL h
    refine T_loopG _ (t3 fun o4 differ2 i2 => ⟨[(0, .ptr 0 1 0 0), (1, .sl 81 (List.map R81 l)), (4, .int .i64 i), (5, .bool differ2), (8, .int .i64 i), (11, .sl 81 (List.map R81 l)), (12, .int .i64 (l.length : Int)), (13, .int .i64 i2)], [some ⟨81, [(.int .i64 o4.Number) :: ((List.map C36 o4.Frame.toList) ++ (((List.map C3 o4.States.toList) ++ ((.bool o4.Sound) :: (.int .i64 o4.Copies) :: (.bool o4.Conflict) :: []))))]⟩]⟩) _ hl2 (Ent.sel [some 0] (sr 0 rfl (.ptr _ _ _ rfl) <| sd 1 rfl rfl <| sd 4 rfl rfl <| sd 5 rfl rfl <| sd 8 rfl rfl <| sd 11 rfl rfl <| sd 12 rfl rfl <| sd 13 rfl rfl <| sn) (.cons rfl (ro1 (by exact Eq.trans (b := 132) (lnC (n := 131) (lnA (m := 64) (n := 67) arL (lnA (m := 64) (n := 3) arL (lnC (n := 2) (lnC (n := 1) (lnC (n := 0) (lnN))))))) tZ_81.symm) (rld (alC rfl (alA (arD fun _ => rfl) (alA (arD fun _ => rfl) (alC rfl (alC rfl (alC rfl (alN))))))))) <| .nil) rfl rfl) (fun n2 s2 h => ?_)
    obtain ⟨o4, differ2, i2⟩ := s2
    replace h := t3i h
    refine t3T ?_
    unfold salvage_ofParts_L2 at h
    refine T_seq (T_reg ?_)
    refine R_q _ rfl (v_lss (ov rfl) (ov rfl)) ?_
    refine R_nil ?_
    refine T_seq ?_
    refine T_if h rfl (fun b14 h => ?_) (fun b14 h => ?_)
    ·
     refine T_skip ?_
     refine T_joinG id (t2 fun o5 differ3 => ⟨[(0, .ptr 0 1 0 0), (1, .sl 81 (List.map R81 l)), (4, .int .i64 i), (5, .bool differ3), (8, .int .i64 i), (11, .sl 81 (List.map R81 l)), (12, .int .i64 (l.length : Int)), (13, .int .i64 i2)], [some ⟨81, [(.int .i64 o5.Number) :: ((List.map C36 o5.Frame.toList) ++ (((List.map C3 o5.States.toList) ++ ((.bool o5.Sound) :: (.int .i64 o5.Copies) :: (.bool o5.Conflict) :: []))))]⟩]⟩) h (fun h => ?_) (fun j h => ?_)
     ·
      refine T_block ?_
      refine T_keep (kc 0 rfl <| kc 1 rfl <| kc 4 rfl <| kc 5 rfl <| kc 8 rfl <| kc 11 rfl <| kc 12 rfl <| kc 13 rfl <| kn) rfl ?_
      refine T_seq (T_reg ?_)
      obtain ⟨x, h_x, h⟩ := bnd h
      refine R_q _ rfl (v_ixSG (ov rfl) (ov rfl) tL75 h_x) ?_
      refine R_q _ rfl (v_loadA_r (ov rfl) tA81 (at_sub (at_all (lnC (n := 131) (lnA (m := 64) (n := 67) arL (lnA (m := 64) (n := 3) arL (lnC (n := 2) (lnC (n := 1) (lnC (n := 0) (lnN))))))))) (lnC (n := 131) (lnA (m := 64) (n := 67) arL (lnA (m := 64) (n := 3) arL (lnC (n := 2) (lnC (n := 1) (lnC (n := 0) (lnN)))))))) ?_
      refine R_w _ _ rfl (w_alloc (row := (.int .i64 0) :: ((List.map C36 (Vector.replicate 64 0).toList) ++ (((List.map C3 (Vector.replicate 64 0).toList) ++ ((.bool false) :: (.int .i64 0) :: (.bool false) :: []))))) 1 rfl tZ81 (by kernel_rfl) (by exact Eq.symm (Eq.trans (b := 132) (lnC (n := 131) (lnA (m := 64) (n := 67) arL (lnA (m := 64) (n := 3) arL (lnC (n := 2) (lnC (n := 1) (lnC (n := 0) (lnN))))))) tZ_81.symm))) ?_
      refine R_w _ _ rfl (w_store (ov rfl) (ov rfl) (cells_agg tA81 (lnC (n := 131) (lnA (m := 64) (n := 67) arL (lnA (m := 64) (n := 3) arL (lnC (n := 2) (lnC (n := 1) (lnC (n := 0) (lnN)))))))) rfl rfl rfl (put_le (at_all (lnC (n := 131) (lnA (m := 64) (n := 67) arL (lnA (m := 64) (n := 3) arL (lnC (n := 2) (lnC (n := 1) (lnC (n := 0) (lnN)))))))) (lnC (n := 131) (lnA (m := 64) (n := 67) arL (lnA (m := 64) (n := 3) arL (lnC (n := 2) (lnC (n := 1) (lnC (n := 0) (lnN)))))))) (cell1_all (alC rfl (alA (arC fun _ => rfl) (alA (arC fun _ => rfl) (alC rfl (alC rfl (alC rfl (alN)))))))) (put_all (Eq.trans (lnC (n := 131) (lnA (m := 64) (n := 67) arL (lnA (m := 64) (n := 3) arL (lnC (n := 2) (lnC (n := 1) (lnC (n := 0) (lnN))))))) (Eq.symm (lnC (n := 131) (lnA (m := 64) (n := 67) arL (lnA (m := 64) (n := 3) arL (lnC (n := 2) (lnC (n := 1) (lnC (n := 0) (lnN))))))))))) ?_
      refine R_nil ?_
      refine T_seq ?_
      refine T_keep (kc 0 rfl <| kc 1 rfl <| kc 4 rfl <| kc 5 rfl <| kc 7 rfl <| kc 8 rfl <| kc 11 rfl <| kc 12 rfl <| kc 13 rfl <| kn) rfl ?_
      refine T_seq (T_reg ?_)
      refine R_q _ rfl (v_move (ov rfl)) ?_
      refine R_q _ rfl (v_fieldP (ov rfl) rfl rfl tF81_2) ?_
      obtain ⟨x2, h_x2, h⟩ := bnd h
      refine R_q _ rfl (v_ixAG (ov rfl) (ov rfl) tR79 rfl rfl h_x2) ?_
      refine R_q _ rfl (v_loadS (ov rfl) rfl rfl rfl tS3 (at_get (at_at (o := 65) (o' := (i.toNat * 1)) (atc (o := 64) (ata (m := 64) (o := 0) arL (at0 (hdw arL)))) (at_v1 h_x2)))) ?_
      refine R_q _ rfl (v_eql (ov rfl) (ov rfl)) ?_
      refine R_nil ?_
      refine T_keep (kc 0 rfl <| kc 1 rfl <| kc 4 rfl <| kc 5 rfl <| kc 7 rfl <| kc 8 rfl <| kc 11 rfl <| kc 12 rfl <| kc 13 rfl <| kc 21 rfl <| kn) rfl ?_
      refine T_if h rfl (fun b21 h => ?_) (fun b21 h => ?_)
      ·
       refine T_exit ?_
       exact ⟨(o4, differ2), h, Ent.sel [some 0] (sr 0 rfl (.ptr _ _ _ rfl) <| sd 1 rfl rfl <| sd 4 rfl rfl <| sd 5 rfl rfl <| sd 8 rfl rfl <| sd 11 rfl rfl <| sd 12 rfl rfl <| sd 13 rfl rfl <| sn) (.cons rfl (ro1 (by exact Eq.trans (b := 132) (lnC (n := 131) (lnA (m := 64) (n := 67) arL (lnA (m := 64) (n := 3) arL (lnC (n := 2) (lnC (n := 1) (lnC (n := 0) (lnN))))))) tZ_81.symm) (rld (alC rfl (alA (arD fun _ => rfl) (alA (arD fun _ => rfl) (alC rfl (alC rfl (alC rfl (alN))))))))) <| .nil) rfl rfl⟩
      ·
       refine T_skip ?_
       refine T_keep (kc 0 rfl <| kc 1 rfl <| kc 4 rfl <| kc 5 rfl <| kc 7 rfl <| kc 8 rfl <| kc 11 rfl <| kc 12 rfl <| kc 13 rfl <| kn) rfl ?_
       refine T_seq (T_draw (cw := md0) (by kernel_rfl) ?_)
       refine D_q0 0 _ rfl (by kernel_rfl) rfl rfl (v_move (ov rfl)) ?_
       refine D_q0 1 _ rfl (by kernel_rfl) rfl rfl (v_move (ov rfl)) ?_
       refine D_q0 2 _ rfl (by kernel_rfl) rfl rfl (.guarded (differ2 == false) rfl rfl rfl rfl fun h => v_move (ov rfl)) ?_
       refine D_q0 3 _ rfl (by kernel_rfl) rfl rfl (.guarded (differ2 == false) rfl rfl rfl rfl fun h => v_move (ov rfl)) ?_
       refine D_q0 4 _ rfl (by kernel_rfl) rfl rfl (.guarded (differ2 == false) rfl rfl rfl rfl fun h => v_nilCheckP (ow rfl h) rfl rfl) ?_
       refine D_q0 5 _ rfl (by kernel_rfl) rfl rfl (.guarded (differ2 == false) rfl rfl rfl rfl fun h => v_fieldP (ow rfl h) rfl rfl tF81_2) ?_
       obtain ⟨x3, h_x3, h⟩ := bnd h
       refine D_q0 6 _ rfl (by kernel_rfl) rfl rfl (.guarded (differ2 == false) rfl rfl rfl rfl fun h => v_ixAG (ow rfl h) (ow rfl h) tR79 rfl rfl (gdT h_x3 h)) ?_
       refine D_q0 7 _ rfl (by kernel_rfl) rfl rfl (.guarded (differ2 == false) rfl rfl rfl rfl fun h => v_loadS (ow rfl h) rfl rfl rfl tS3 (at_get (at_at (o := 65) (o' := (i.toNat * 1)) (atc (o := 64) (ata (m := 64) (o := 0) arL (at0 (hdw arL)))) (at_v1 (gdT h_x3 h))))) ?_
       refine D_q0 8 _ rfl (by kernel_rfl) rfl rfl (.guarded (differ2 == false) rfl rfl rfl rfl fun h => v_neq (ow rfl h) (ov rfl)) ?_
       refine D_q0 9 _ rfl (by kernel_rfl) rfl rfl (.guarded (differ2 == false) rfl rfl rfl rfl fun h => v_move (ow rfl h)) ?_
       refine D_q0 10 _ rfl (by kernel_rfl) rfl rfl (.guarded2 ((differ2 == false) && ((!decide (x3 = 0)) == true)) rfl rfl rfl rfl fun h => v_move (ov rfl)) ?_
       refine D_q0 11 _ rfl (by kernel_rfl) rfl rfl (.guarded2 ((differ2 == false) && ((!decide (x3 = 0)) == true)) rfl rfl rfl rfl fun h => v_move (ov rfl)) ?_
       refine D_q0 12 _ rfl (by kernel_rfl) rfl rfl (.guarded2 ((differ2 == false) && ((!decide (x3 = 0)) == true)) rfl rfl rfl rfl fun h => v_nilCheckP (ow rfl h) rfl rfl) ?_
       refine D_q0 13 _ rfl (by kernel_rfl) rfl rfl (.guarded2 ((differ2 == false) && ((!decide (x3 = 0)) == true)) rfl rfl rfl rfl fun h => v_fieldP (ow rfl h) rfl rfl tF81_1) ?_
       obtain ⟨x4, h_x4, h⟩ := bnd h
       refine D_q0 14 _ rfl (by kernel_rfl) rfl rfl (.guarded2 ((differ2 == false) && ((!decide (x3 = 0)) == true)) rfl rfl rfl rfl fun h => v_ixAG (ow rfl h) (ow rfl h) tR38 rfl rfl (gdT h_x4 h)) ?_
       refine D_q0 15 _ rfl (by kernel_rfl) rfl rfl (.guarded2 ((differ2 == false) && ((!decide (x3 = 0)) == true)) rfl rfl rfl rfl fun h => v_loadS (ow rfl h) rfl rfl rfl tS36 (at_get (at_at (o := 1) (o' := (i.toNat * 1)) (atc (o := 0) (at0 (hdw arL))) (at_v1 (gdT h_x4 h))))) ?_
       refine D_q0 16 _ rfl (by kernel_rfl) rfl rfl (.guarded2 ((differ2 == false) && ((!decide (x3 = 0)) == true)) rfl rfl rfl rfl fun h => v_move (ov rfl)) ?_
       refine D_q0 17 _ rfl (by kernel_rfl) rfl rfl (.guarded2 ((differ2 == false) && ((!decide (x3 = 0)) == true)) rfl rfl rfl rfl fun h => v_fieldP (ov rfl) rfl rfl tF81_1) ?_
       obtain ⟨x5, h_x5, h⟩ := bnd h
       refine D_q0 18 _ rfl (by kernel_rfl) rfl rfl (.guarded2 ((differ2 == false) && ((!decide (x3 = 0)) == true)) rfl rfl rfl rfl fun h => v_ixAG (ow rfl h) (ow rfl h) tR38 rfl rfl (gdT h_x5 h)) ?_
       refine D_q0 19 _ rfl (by kernel_rfl) rfl rfl (.guarded2 ((differ2 == false) && ((!decide (x3 = 0)) == true)) rfl rfl rfl rfl fun h => v_loadS (ow rfl h) rfl rfl rfl tS36 (at_get (at_at (o := 1) (o' := (i.toNat * 1)) (atc (o := 0) (at0 (hdw arL))) (at_v1 (gdT h_x5 h))))) ?_
       refine D_q0 20 _ rfl (by kernel_rfl) rfl rfl (.guarded2 ((differ2 == false) && ((!decide (x3 = 0)) == true)) rfl rfl rfl rfl fun h => v_neq (ow rfl h) (ow rfl h)) ?_
       refine D_q0 21 _ rfl (by kernel_rfl) rfl rfl (.guarded (differ2 == false) rfl rfl rfl rfl fun h => v_and (ow rfl h) (fun hp => ow rfl (gA h (gT hp)))) ?_
       refine D_q0 22 _ rfl (by kernel_rfl) rfl rfl (v_or (ov rfl) (fun hp => ow rfl (gF hp))) ?_
       refine D_q0 23 _ rfl (by kernel_rfl) rfl rfl (v_assign (ov rfl)) ?_
       refine D_done (by kernel_rfl) ?_
       refine T_keep (kc 0 rfl <| kc 1 rfl <| kc 4 rfl <| kc 5 rfl <| kc 7 rfl <| kc 8 rfl <| kc 11 rfl <| kc 12 rfl <| kc 13 rfl <| kn) rfl ?_
       refine T_draw (cw := md0) (by kernel_rfl) ?_
       refine D_q0 0 _ rfl (by kernel_rfl) rfl rfl (v_move (ov rfl)) ?_
       refine D_q0 1 _ rfl (by kernel_rfl) rfl rfl (v_move (ov rfl)) ?_
       refine D_q0 8 _ rfl (by kernel_rfl) rfl rfl (v_nilCheckP (ov rfl) rfl rfl) ?_
       refine D_q0 9 _ rfl (by kernel_rfl) rfl rfl (v_fieldP (ov rfl) rfl rfl tF81_2) ?_
       obtain ⟨x6, h_x6, h⟩ := bnd h
       refine D_q0 10 _ rfl (by kernel_rfl) rfl rfl (v_ixAG (ov rfl) (ov rfl) tR79 rfl rfl h_x6) ?_
       refine D_free 2 _ rfl (by kernel_rfl) rfl rfl (fun hp' => v_move (ov rfl)) ?_
       refine D_free 3 _ rfl (by kernel_rfl) rfl rfl (fun hp' => v_move (ov rfl)) ?_
       refine D_free 4 _ rfl (by kernel_rfl) rfl rfl (fun hp' => v_move (ov rfl)) ?_
       refine D_many [5, 11, 12] (by kernel_rfl) (.q rfl rfl rfl (v_fieldP (ov rfl) rfl rfl tF81_1) ?_ <| .w rfl rfl rfl (fun h => by cases h) (fun h => by cases h) (w_store (ov rfl) (ov rfl) (cells_scal tS3) rfl rfl rfl (put_le (at_at (o := 65) (o' := (i.toNat * 1)) (atc (o := 64) (ata (m := 64) (o := 0) arL (at0 (hdw arL)))) (at_v1 h_x6)) rfl) (cell1_all rfl) (put_put (o := 65) (o' := (i.toNat * 1)) (atc (o := 64) (ata (m := 64) (o := 0) arL (at0 (hdw arL)))) (at_v1 h_x6) rfl (put_v1 h_x6 (x := 1)) (putc (o := 64) (puta (m := 64) (o := 0) arL (putw (Eq.trans arL (Eq.symm arL))))))) ?_ <| .q rfl rfl rfl (v_nilCheckP (ov rfl) rfl rfl) ?_ <| .nil) 
       ·
        obtain ⟨x7, h_x7, h⟩ := bnd h
        refine D_many [6, 11, 12] (by kernel_rfl) (.q rfl rfl rfl (v_ixAG (ov rfl) (ov rfl) tR38 rfl rfl h_x7) ?_ <| .w rfl rfl rfl (fun h => by cases h) (fun h => by cases h) (w_store (ov rfl) (ov rfl) (cells_scal tS3) rfl rfl rfl (put_le (at_at (o := 65) (o' := (i.toNat * 1)) (atc (o := 64) (ata (m := 64) (o := 0) arL (at0 (hdw arL)))) (at_v1 h_x6)) rfl) (cell1_all rfl) (put_put (o := 65) (o' := (i.toNat * 1)) (atc (o := 64) (ata (m := 64) (o := 0) arL (at0 (hdw arL)))) (at_v1 h_x6) rfl (put_v1 h_x6 (x := 1)) (putc (o := 64) (puta (m := 64) (o := 0) arL (putw (Eq.trans arL (Eq.symm arL))))))) ?_ <| .q rfl rfl rfl (v_nilCheckP (ov rfl) rfl rfl) ?_ <| .nil) 
        ·
         refine D_many [7, 11, 12] (by kernel_rfl) (.q rfl rfl rfl (v_loadS (ov rfl) rfl rfl rfl tS36 (at_get (at_at (o := 1) (o' := (i.toNat * 1)) (atc (o := 0) (at0 (hdw arL))) (at_v1 h_x7)))) ?_ <| .w rfl rfl rfl (fun h => by cases h) (fun h => by cases h) (w_store (ov rfl) (ov rfl) (cells_scal tS3) rfl rfl rfl (put_le (at_at (o := 65) (o' := (i.toNat * 1)) (atc (o := 64) (ata (m := 64) (o := 0) arL (at0 (hdw arL)))) (at_v1 h_x6)) rfl) (cell1_all rfl) (put_put (o := 65) (o' := (i.toNat * 1)) (atc (o := 64) (ata (m := 64) (o := 0) arL (at0 (hdw arL)))) (at_v1 h_x6) rfl (put_v1 h_x6 (x := 1)) (putc (o := 64) (puta (m := 64) (o := 0) arL (putw (Eq.trans arL (Eq.symm arL))))))) ?_ <| .q rfl rfl rfl (v_nilCheckP (ov rfl) rfl rfl) ?_ <| .nil) 
         ·
          refine D_twoQ 12 11 rfl rfl (by kernel_rfl) rfl rfl rfl rfl (fun h => by cases h) (fun h => by cases h) (v_nilCheckP (ov rfl) rfl rfl) (w_store (ov rfl) (ov rfl) (cells_scal tS3) rfl rfl rfl (put_le (at_at (o := 65) (o' := (i.toNat * 1)) (atc (o := 64) (ata (m := 64) (o := 0) arL (at0 (hdw arL)))) (at_v1 h_x6)) rfl) (cell1_all rfl) (put_put (o := 65) (o' := (i.toNat * 1)) (atc (o := 64) (ata (m := 64) (o := 0) arL (at0 (hdw arL)))) (at_v1 h_x6) rfl (put_v1 h_x6 (x := 1)) (putc (o := 64) (puta (m := 64) (o := 0) arL (putw (Eq.trans arL (Eq.symm arL))))))) ?_ ?_
          ·
           refine D_twoQ 13 11 rfl rfl (by kernel_rfl) rfl rfl rfl rfl (fun h => by cases h) (fun h => by cases h) (v_fieldP (ov rfl) rfl rfl tF81_1) (w_store (ov rfl) (ov rfl) (cells_scal tS3) rfl rfl rfl (put_le (at_at (o := 65) (o' := (i.toNat * 1)) (atc (o := 64) (ata (m := 64) (o := 0) arL (at0 (hdw arL)))) (at_v1 h_x6)) rfl) (cell1_all rfl) (put_put (o := 65) (o' := (i.toNat * 1)) (atc (o := 64) (ata (m := 64) (o := 0) arL (at0 (hdw arL)))) (at_v1 h_x6) rfl (put_v1 h_x6 (x := 1)) (putc (o := 64) (puta (m := 64) (o := 0) arL (putw (Eq.trans arL (Eq.symm arL))))))) ?_ ?_
           ·
            refine D_one 11 _ _ rfl (by kernel_rfl) rfl rfl (fun h => by cases h) (fun h => by cases h) (w_store (ov rfl) (ov rfl) (cells_scal tS3) rfl rfl rfl (put_le (at_at (o := 65) (o' := (i.toNat * 1)) (atc (o := 64) (ata (m := 64) (o := 0) arL (at0 (hdw arL)))) (at_v1 h_x6)) rfl) (cell1_all rfl) (put_put (o := 65) (o' := (i.toNat * 1)) (atc (o := 64) (ata (m := 64) (o := 0) arL (at0 (hdw arL)))) (at_v1 h_x6) rfl (put_v1 h_x6 (x := 1)) (putc (o := 64) (puta (m := 64) (o := 0) arL (putw (Eq.trans arL (Eq.symm arL))))))) ?_
            obtain ⟨x8, h_x8, h⟩ := bnd h
            refine D_q0 14 _ rfl (by kernel_rfl) rfl rfl (v_ixAG (ov rfl) (ov rfl) tR38 rfl rfl h_x8) ?_
            refine D_one 15 _ _ rfl (by kernel_rfl) rfl rfl (fun h => by cases h) (fun h => by cases h) (w_store (ov rfl) (ov rfl) (cells_scal tS36) rfl rfl rfl (put_le (at_at (o := 1) (o' := (i.toNat * 1)) (atc (o := 0) (at0 (hdw arL))) (at_v1 h_x8)) rfl) (cell1_all rfl) (put_put (o := 1) (o' := (i.toNat * 1)) (atc (o := 0) (at0 (hdw arL))) (at_v1 h_x8) rfl (put_v1 h_x8 (x := x7)) (putc (o := 0) (putw (Eq.trans arL (Eq.symm arL)))))) ?_
            refine D_done (by kernel_rfl) ?_
            exact ⟨((api_Rest.mk o4.Number (vset o4.Frame i x7) (vset o4.States i 1) o4.Sound o4.Copies o4.Conflict), (differ2 || ((!decide (x3 = 0)) && (!decide (x4 = x5))))), h, Ent.sel [some 0] (sr 0 rfl (.ptr _ _ _ rfl) <| sd 1 rfl rfl <| sd 4 rfl rfl <| sd 5 rfl rfl <| sd 8 rfl rfl <| sd 11 rfl rfl <| sd 12 rfl rfl <| sd 13 rfl rfl <| sn) (.cons rfl (ro1 (by exact Eq.trans (b := 132) (lnC (n := 131) (lnA (m := 64) (n := 67) arL (lnA (m := 64) (n := 3) arL (lnC (n := 2) (lnC (n := 1) (lnC (n := 0) (lnN))))))) tZ_81.symm) (rld (alC rfl (alA (arD fun _ => rfl) (alA (arD fun _ => rfl) (alC rfl (alC rfl (alC rfl (alN))))))))) <| .nil) rfl rfl⟩
           ·
            refine D_q0 13 _ rfl (by kernel_rfl) rfl rfl (v_fieldP (ov rfl) rfl rfl tF81_1) ?_
            obtain ⟨x8, h_x8, h⟩ := bnd h
            refine D_q0 14 _ rfl (by kernel_rfl) rfl rfl (v_ixAG (ov rfl) (ov rfl) tR38 rfl rfl h_x8) ?_
            refine D_one 15 _ _ rfl (by kernel_rfl) rfl rfl (fun h => by cases h) (fun h => by cases h) (w_store (ov rfl) (ov rfl) (cells_scal tS36) rfl rfl rfl (put_le (at_at (o := 1) (o' := (i.toNat * 1)) (atc (o := 0) (at0 (hdw arL))) (at_v1 h_x8)) rfl) (cell1_all rfl) (put_put (o := 1) (o' := (i.toNat * 1)) (atc (o := 0) (at0 (hdw arL))) (at_v1 h_x8) rfl (put_v1 h_x8 (x := x7)) (putc (o := 0) (putw (Eq.trans arL (Eq.symm arL)))))) ?_
            refine D_done (by kernel_rfl) ?_
            exact ⟨((api_Rest.mk o4.Number (vset o4.Frame i x7) (vset o4.States i 1) o4.Sound o4.Copies o4.Conflict), (differ2 || ((!decide (x3 = 0)) && (!decide (x4 = x5))))), h, Ent.sel [some 0] (sr 0 rfl (.ptr _ _ _ rfl) <| sd 1 rfl rfl <| sd 4 rfl rfl <| sd 5 rfl rfl <| sd 8 rfl rfl <| sd 11 rfl rfl <| sd 12 rfl rfl <| sd 13 rfl rfl <| sn) (.cons rfl (ro1 (by exact Eq.trans (b := 132) (lnC (n := 131) (lnA (m := 64) (n := 67) arL (lnA (m := 64) (n := 3) arL (lnC (n := 2) (lnC (n := 1) (lnC (n := 0) (lnN))))))) tZ_81.symm) (rld (alC rfl (alA (arD fun _ => rfl) (alA (arD fun _ => rfl) (alC rfl (alC rfl (alC rfl (alN))))))))) <| .nil) rfl rfl⟩
          ·
           refine D_q0 12 _ rfl (by kernel_rfl) rfl rfl (v_nilCheckP (ov rfl) rfl rfl) ?_
           refine D_q0 13 _ rfl (by kernel_rfl) rfl rfl (v_fieldP (ov rfl) rfl rfl tF81_1) ?_
           obtain ⟨x8, h_x8, h⟩ := bnd h
           refine D_q0 14 _ rfl (by kernel_rfl) rfl rfl (v_ixAG (ov rfl) (ov rfl) tR38 rfl rfl h_x8) ?_
           refine D_one 15 _ _ rfl (by kernel_rfl) rfl rfl (fun h => by cases h) (fun h => by cases h) (w_store (ov rfl) (ov rfl) (cells_scal tS36) rfl rfl rfl (put_le (at_at (o := 1) (o' := (i.toNat * 1)) (atc (o := 0) (at0 (hdw arL))) (at_v1 h_x8)) rfl) (cell1_all rfl) (put_put (o := 1) (o' := (i.toNat * 1)) (atc (o := 0) (at0 (hdw arL))) (at_v1 h_x8) rfl (put_v1 h_x8 (x := x7)) (putc (o := 0) (putw (Eq.trans arL (Eq.symm arL)))))) ?_
           refine D_done (by kernel_rfl) ?_
           exact ⟨((api_Rest.mk o4.Number (vset o4.Frame i x7) (vset o4.States i 1) o4.Sound o4.Copies o4.Conflict), (differ2 || ((!decide (x3 = 0)) && (!decide (x4 = x5))))), h, Ent.sel [some 0] (sr 0 rfl (.ptr _ _ _ rfl) <| sd 1 rfl rfl <| sd 4 rfl rfl <| sd 5 rfl rfl <| sd 8 rfl rfl <| sd 11 rfl rfl <| sd 12 rfl rfl <| sd 13 rfl rfl <| sn) (.cons rfl (ro1 (by exact Eq.trans (b := 132) (lnC (n := 131) (lnA (m := 64) (n := 67) arL (lnA (m := 64) (n := 3) arL (lnC (n := 2) (lnC (n := 1) (lnC (n := 0) (lnN))))))) tZ_81.symm) (rld (alC rfl (alA (arD fun _ => rfl) (alA (arD fun _ => rfl) (alC rfl (alC rfl (alC rfl (alN))))))))) <| .nil) rfl rfl⟩
         ·
          refine D_q0 7 _ rfl (by kernel_rfl) rfl rfl (v_loadS (ov rfl) rfl rfl rfl tS36 (at_get (at_at (o := 1) (o' := (i.toNat * 1)) (atc (o := 0) (at0 (hdw arL))) (at_v1 h_x7)))) ?_
          refine D_q0 12 _ rfl (by kernel_rfl) rfl rfl (v_nilCheckP (ov rfl) rfl rfl) ?_
          refine D_q0 13 _ rfl (by kernel_rfl) rfl rfl (v_fieldP (ov rfl) rfl rfl tF81_1) ?_
          obtain ⟨x8, h_x8, h⟩ := bnd h
          refine D_q0 14 _ rfl (by kernel_rfl) rfl rfl (v_ixAG (ov rfl) (ov rfl) tR38 rfl rfl h_x8) ?_
          refine D_one 15 _ _ rfl (by kernel_rfl) rfl rfl (fun h => by cases h) (fun h => by cases h) (w_store (ov rfl) (ov rfl) (cells_scal tS36) rfl rfl rfl (put_le (at_at (o := 1) (o' := (i.toNat * 1)) (atc (o := 0) (at0 (hdw arL))) (at_v1 h_x8)) rfl) (cell1_all rfl) (put_put (o := 1) (o' := (i.toNat * 1)) (atc (o := 0) (at0 (hdw arL))) (at_v1 h_x8) rfl (put_v1 h_x8 (x := x7)) (putc (o := 0) (putw (Eq.trans arL (Eq.symm arL)))))) ?_
          refine D_done (by kernel_rfl) ?_
          exact ⟨((api_Rest.mk o4.Number (vset o4.Frame i x7) (vset o4.States i 1) o4.Sound o4.Copies o4.Conflict), (differ2 || ((!decide (x3 = 0)) && (!decide (x4 = x5))))), h, Ent.sel [some 0] (sr 0 rfl (.ptr _ _ _ rfl) <| sd 1 rfl rfl <| sd 4 rfl rfl <| sd 5 rfl rfl <| sd 8 rfl rfl <| sd 11 rfl rfl <| sd 12 rfl rfl <| sd 13 rfl rfl <| sn) (.cons rfl (ro1 (by exact Eq.trans (b := 132) (lnC (n := 131) (lnA (m := 64) (n := 67) arL (lnA (m := 64) (n := 3) arL (lnC (n := 2) (lnC (n := 1) (lnC (n := 0) (lnN))))))) tZ_81.symm) (rld (alC rfl (alA (arD fun _ => rfl) (alA (arD fun _ => rfl) (alC rfl (alC rfl (alC rfl (alN))))))))) <| .nil) rfl rfl⟩
         ·
          refine D_many [7, 11, 13] (by kernel_rfl) (.q rfl rfl rfl (v_loadS (ov rfl) rfl rfl rfl tS36 (at_get (at_at (o := 1) (o' := (i.toNat * 1)) (atc (o := 0) (at0 (hdw arL))) (at_v1 h_x7)))) ?_ <| .w rfl rfl rfl (fun h => by cases h) (fun h => by cases h) (w_store (ov rfl) (ov rfl) (cells_scal tS3) rfl rfl rfl (put_le (at_at (o := 65) (o' := (i.toNat * 1)) (atc (o := 64) (ata (m := 64) (o := 0) arL (at0 (hdw arL)))) (at_v1 h_x6)) rfl) (cell1_all rfl) (put_put (o := 65) (o' := (i.toNat * 1)) (atc (o := 64) (ata (m := 64) (o := 0) arL (at0 (hdw arL)))) (at_v1 h_x6) rfl (put_v1 h_x6 (x := 1)) (putc (o := 64) (puta (m := 64) (o := 0) arL (putw (Eq.trans arL (Eq.symm arL))))))) ?_ <| .q rfl rfl rfl (v_fieldP (ov rfl) rfl rfl tF81_1) ?_ <| .nil) 
          ·
           refine D_twoQ 13 11 rfl rfl (by kernel_rfl) rfl rfl rfl rfl (fun h => by cases h) (fun h => by cases h) (v_fieldP (ov rfl) rfl rfl tF81_1) (w_store (ov rfl) (ov rfl) (cells_scal tS3) rfl rfl rfl (put_le (at_at (o := 65) (o' := (i.toNat * 1)) (atc (o := 64) (ata (m := 64) (o := 0) arL (at0 (hdw arL)))) (at_v1 h_x6)) rfl) (cell1_all rfl) (put_put (o := 65) (o' := (i.toNat * 1)) (atc (o := 64) (ata (m := 64) (o := 0) arL (at0 (hdw arL)))) (at_v1 h_x6) rfl (put_v1 h_x6 (x := 1)) (putc (o := 64) (puta (m := 64) (o := 0) arL (putw (Eq.trans arL (Eq.symm arL))))))) ?_ ?_
           ·
            refine D_one 11 _ _ rfl (by kernel_rfl) rfl rfl (fun h => by cases h) (fun h => by cases h) (w_store (ov rfl) (ov rfl) (cells_scal tS3) rfl rfl rfl (put_le (at_at (o := 65) (o' := (i.toNat * 1)) (atc (o := 64) (ata (m := 64) (o := 0) arL (at0 (hdw arL)))) (at_v1 h_x6)) rfl) (cell1_all rfl) (put_put (o := 65) (o' := (i.toNat * 1)) (atc (o := 64) (ata (m := 64) (o := 0) arL (at0 (hdw arL)))) (at_v1 h_x6) rfl (put_v1 h_x6 (x := 1)) (putc (o := 64) (puta (m := 64) (o := 0) arL (putw (Eq.trans arL (Eq.symm arL))))))) ?_
            obtain ⟨x8, h_x8, h⟩ := bnd h
            refine D_q0 14 _ rfl (by kernel_rfl) rfl rfl (v_ixAG (ov rfl) (ov rfl) tR38 rfl rfl h_x8) ?_
            refine D_one 15 _ _ rfl (by kernel_rfl) rfl rfl (fun h => by cases h) (fun h => by cases h) (w_store (ov rfl) (ov rfl) (cells_scal tS36) rfl rfl rfl (put_le (at_at (o := 1) (o' := (i.toNat * 1)) (atc (o := 0) (at0 (hdw arL))) (at_v1 h_x8)) rfl) (cell1_all rfl) (put_put (o := 1) (o' := (i.toNat * 1)) (atc (o := 0) (at0 (hdw arL))) (at_v1 h_x8) rfl (put_v1 h_x8 (x := x7)) (putc (o := 0) (putw (Eq.trans arL (Eq.symm arL)))))) ?_
            refine D_done (by kernel_rfl) ?_
            exact ⟨((api_Rest.mk o4.Number (vset o4.Frame i x7) (vset o4.States i 1) o4.Sound o4.Copies o4.Conflict), (differ2 || ((!decide (x3 = 0)) && (!decide (x4 = x5))))), h, Ent.sel [some 0] (sr 0 rfl (.ptr _ _ _ rfl) <| sd 1 rfl rfl <| sd 4 rfl rfl <| sd 5 rfl rfl <| sd 8 rfl rfl <| sd 11 rfl rfl <| sd 12 rfl rfl <| sd 13 rfl rfl <| sn) (.cons rfl (ro1 (by exact Eq.trans (b := 132) (lnC (n := 131) (lnA (m := 64) (n := 67) arL (lnA (m := 64) (n := 3) arL (lnC (n := 2) (lnC (n := 1) (lnC (n := 0) (lnN))))))) tZ_81.symm) (rld (alC rfl (alA (arD fun _ => rfl) (alA (arD fun _ => rfl) (alC rfl (alC rfl (alC rfl (alN))))))))) <| .nil) rfl rfl⟩
           ·
            refine D_q0 13 _ rfl (by kernel_rfl) rfl rfl (v_fieldP (ov rfl) rfl rfl tF81_1) ?_
            obtain ⟨x8, h_x8, h⟩ := bnd h
            refine D_q0 14 _ rfl (by kernel_rfl) rfl rfl (v_ixAG (ov rfl) (ov rfl) tR38 rfl rfl h_x8) ?_
            refine D_one 15 _ _ rfl (by kernel_rfl) rfl rfl (fun h => by cases h) (fun h => by cases h) (w_store (ov rfl) (ov rfl) (cells_scal tS36) rfl rfl rfl (put_le (at_at (o := 1) (o' := (i.toNat * 1)) (atc (o := 0) (at0 (hdw arL))) (at_v1 h_x8)) rfl) (cell1_all rfl) (put_put (o := 1) (o' := (i.toNat * 1)) (atc (o := 0) (at0 (hdw arL))) (at_v1 h_x8) rfl (put_v1 h_x8 (x := x7)) (putc (o := 0) (putw (Eq.trans arL (Eq.symm arL)))))) ?_
            refine D_done (by kernel_rfl) ?_
            exact ⟨((api_Rest.mk o4.Number (vset o4.Frame i x7) (vset o4.States i 1) o4.Sound o4.Copies o4.Conflict), (differ2 || ((!decide (x3 = 0)) && (!decide (x4 = x5))))), h, Ent.sel [some 0] (sr 0 rfl (.ptr _ _ _ rfl) <| sd 1 rfl rfl <| sd 4 rfl rfl <| sd 5 rfl rfl <| sd 8 rfl rfl <| sd 11 rfl rfl <| sd 12 rfl rfl <| sd 13 rfl rfl <| sn) (.cons rfl (ro1 (by exact Eq.trans (b := 132) (lnC (n := 131) (lnA (m := 64) (n := 67) arL (lnA (m := 64) (n := 3) arL (lnC (n := 2) (lnC (n := 1) (lnC (n := 0) (lnN))))))) tZ_81.symm) (rld (alC rfl (alA (arD fun _ => rfl) (alA (arD fun _ => rfl) (alC rfl (alC rfl (alC rfl (alN))))))))) <| .nil) rfl rfl⟩
          ·
           refine D_q0 7 _ rfl (by kernel_rfl) rfl rfl (v_loadS (ov rfl) rfl rfl rfl tS36 (at_get (at_at (o := 1) (o' := (i.toNat * 1)) (atc (o := 0) (at0 (hdw arL))) (at_v1 h_x7)))) ?_
           refine D_q0 13 _ rfl (by kernel_rfl) rfl rfl (v_fieldP (ov rfl) rfl rfl tF81_1) ?_
           obtain ⟨x8, h_x8, h⟩ := bnd h
           refine D_q0 14 _ rfl (by kernel_rfl) rfl rfl (v_ixAG (ov rfl) (ov rfl) tR38 rfl rfl h_x8) ?_
           refine D_one 15 _ _ rfl (by kernel_rfl) rfl rfl (fun h => by cases h) (fun h => by cases h) (w_store (ov rfl) (ov rfl) (cells_scal tS36) rfl rfl rfl (put_le (at_at (o := 1) (o' := (i.toNat * 1)) (atc (o := 0) (at0 (hdw arL))) (at_v1 h_x8)) rfl) (cell1_all rfl) (put_put (o := 1) (o' := (i.toNat * 1)) (atc (o := 0) (at0 (hdw arL))) (at_v1 h_x8) rfl (put_v1 h_x8 (x := x7)) (putc (o := 0) (putw (Eq.trans arL (Eq.symm arL)))))) ?_
           refine D_done (by kernel_rfl) ?_
           exact ⟨((api_Rest.mk o4.Number (vset o4.Frame i x7) (vset o4.States i 1) o4.Sound o4.Copies o4.Conflict), (differ2 || ((!decide (x3 = 0)) && (!decide (x4 = x5))))), h, Ent.sel [some 0] (sr 0 rfl (.ptr _ _ _ rfl) <| sd 1 rfl rfl <| sd 4 rfl rfl <| sd 5 rfl rfl <| sd 8 rfl rfl <| sd 11 rfl rfl <| sd 12 rfl rfl <| sd 13 rfl rfl <| sn) (.cons rfl (ro1 (by exact Eq.trans (b := 132) (lnC (n := 131) (lnA (m := 64) (n := 67) arL (lnA (m := 64) (n := 3) arL (lnC (n := 2) (lnC (n := 1) (lnC (n := 0) (lnN))))))) tZ_81.symm) (rld (alC rfl (alA (arD fun _ => rfl) (alA (arD fun _ => rfl) (alC rfl (alC rfl (alC rfl (alN))))))))) <| .nil) rfl rfl⟩
          ·
           refine D_twoQ 7 11 rfl rfl (by kernel_rfl) rfl rfl rfl rfl (fun h => by cases h) (fun h => by cases h) (v_loadS (ov rfl) rfl rfl rfl tS36 (at_get (at_at (o := 1) (o' := (i.toNat * 1)) (atc (o := 0) (at0 (hdw arL))) (at_v1 h_x7)))) (w_store (ov rfl) (ov rfl) (cells_scal tS3) rfl rfl rfl (put_le (at_at (o := 65) (o' := (i.toNat * 1)) (atc (o := 64) (ata (m := 64) (o := 0) arL (at0 (hdw arL)))) (at_v1 h_x6)) rfl) (cell1_all rfl) (put_put (o := 65) (o' := (i.toNat * 1)) (atc (o := 64) (ata (m := 64) (o := 0) arL (at0 (hdw arL)))) (at_v1 h_x6) rfl (put_v1 h_x6 (x := 1)) (putc (o := 64) (puta (m := 64) (o := 0) arL (putw (Eq.trans arL (Eq.symm arL))))))) ?_ ?_
           ·
            refine D_one 11 _ _ rfl (by kernel_rfl) rfl rfl (fun h => by cases h) (fun h => by cases h) (w_store (ov rfl) (ov rfl) (cells_scal tS3) rfl rfl rfl (put_le (at_at (o := 65) (o' := (i.toNat * 1)) (atc (o := 64) (ata (m := 64) (o := 0) arL (at0 (hdw arL)))) (at_v1 h_x6)) rfl) (cell1_all rfl) (put_put (o := 65) (o' := (i.toNat * 1)) (atc (o := 64) (ata (m := 64) (o := 0) arL (at0 (hdw arL)))) (at_v1 h_x6) rfl (put_v1 h_x6 (x := 1)) (putc (o := 64) (puta (m := 64) (o := 0) arL (putw (Eq.trans arL (Eq.symm arL))))))) ?_
            obtain ⟨x8, h_x8, h⟩ := bnd h
            refine D_q0 14 _ rfl (by kernel_rfl) rfl rfl (v_ixAG (ov rfl) (ov rfl) tR38 rfl rfl h_x8) ?_
            refine D_one 15 _ _ rfl (by kernel_rfl) rfl rfl (fun h => by cases h) (fun h => by cases h) (w_store (ov rfl) (ov rfl) (cells_scal tS36) rfl rfl rfl (put_le (at_at (o := 1) (o' := (i.toNat * 1)) (atc (o := 0) (at0 (hdw arL))) (at_v1 h_x8)) rfl) (cell1_all rfl) (put_put (o := 1) (o' := (i.toNat * 1)) (atc (o := 0) (at0 (hdw arL))) (at_v1 h_x8) rfl (put_v1 h_x8 (x := x7)) (putc (o := 0) (putw (Eq.trans arL (Eq.symm arL)))))) ?_
            refine D_done (by kernel_rfl) ?_
            exact ⟨((api_Rest.mk o4.Number (vset o4.Frame i x7) (vset o4.States i 1) o4.Sound o4.Copies o4.Conflict), (differ2 || ((!decide (x3 = 0)) && (!decide (x4 = x5))))), h, Ent.sel [some 0] (sr 0 rfl (.ptr _ _ _ rfl) <| sd 1 rfl rfl <| sd 4 rfl rfl <| sd 5 rfl rfl <| sd 8 rfl rfl <| sd 11 rfl rfl <| sd 12 rfl rfl <| sd 13 rfl rfl <| sn) (.cons rfl (ro1 (by exact Eq.trans (b := 132) (lnC (n := 131) (lnA (m := 64) (n := 67) arL (lnA (m := 64) (n := 3) arL (lnC (n := 2) (lnC (n := 1) (lnC (n := 0) (lnN))))))) tZ_81.symm) (rld (alC rfl (alA (arD fun _ => rfl) (alA (arD fun _ => rfl) (alC rfl (alC rfl (alC rfl (alN))))))))) <| .nil) rfl rfl⟩
           ·
            refine D_q0 7 _ rfl (by kernel_rfl) rfl rfl (v_loadS (ov rfl) rfl rfl rfl tS36 (at_get (at_at (o := 1) (o' := (i.toNat * 1)) (atc (o := 0) (at0 (hdw arL))) (at_v1 h_x7)))) ?_
            obtain ⟨x8, h_x8, h⟩ := bnd h
            refine D_q0 14 _ rfl (by kernel_rfl) rfl rfl (v_ixAG (ov rfl) (ov rfl) tR38 rfl rfl h_x8) ?_
            refine D_one 15 _ _ rfl (by kernel_rfl) rfl rfl (fun h => by cases h) (fun h => by cases h) (w_store (ov rfl) (ov rfl) (cells_scal tS36) rfl rfl rfl (put_le (at_at (o := 1) (o' := (i.toNat * 1)) (atc (o := 0) (at0 (hdw arL))) (at_v1 h_x8)) rfl) (cell1_all rfl) (put_put (o := 1) (o' := (i.toNat * 1)) (atc (o := 0) (at0 (hdw arL))) (at_v1 h_x8) rfl (put_v1 h_x8 (x := x7)) (putc (o := 0) (putw (Eq.trans arL (Eq.symm arL)))))) ?_
            refine D_done (by kernel_rfl) ?_
            exact ⟨((api_Rest.mk o4.Number (vset o4.Frame i x7) (vset o4.States i 1) o4.Sound o4.Copies o4.Conflict), (differ2 || ((!decide (x3 = 0)) && (!decide (x4 = x5))))), h, Ent.sel [some 0] (sr 0 rfl (.ptr _ _ _ rfl) <| sd 1 rfl rfl <| sd 4 rfl rfl <| sd 5 rfl rfl <| sd 8 rfl rfl <| sd 11 rfl rfl <| sd 12 rfl rfl <| sd 13 rfl rfl <| sn) (.cons rfl (ro1 (by exact Eq.trans (b := 132) (lnC (n := 131) (lnA (m := 64) (n := 67) arL (lnA (m := 64) (n := 3) arL (lnC (n := 2) (lnC (n := 1) (lnC (n := 0) (lnN))))))) tZ_81.symm) (rld (alC rfl (alA (arD fun _ => rfl) (alA (arD fun _ => rfl) (alC rfl (alC rfl (alC rfl (alN))))))))) <| .nil) rfl rfl⟩
        ·
         refine D_q0 6 _ rfl (by kernel_rfl) rfl rfl (v_ixAG (ov rfl) (ov rfl) tR38 rfl rfl h_x7) ?_
         refine D_q0 7 _ rfl (by kernel_rfl) rfl rfl (v_loadS (ov rfl) rfl rfl rfl tS36 (at_get (at_at (o := 1) (o' := (i.toNat * 1)) (atc (o := 0) (at0 (hdw arL))) (at_v1 h_x7)))) ?_
         refine D_q0 12 _ rfl (by kernel_rfl) rfl rfl (v_nilCheckP (ov rfl) rfl rfl) ?_
         refine D_q0 13 _ rfl (by kernel_rfl) rfl rfl (v_fieldP (ov rfl) rfl rfl tF81_1) ?_
         obtain ⟨x8, h_x8, h⟩ := bnd h
         refine D_q0 14 _ rfl (by kernel_rfl) rfl rfl (v_ixAG (ov rfl) (ov rfl) tR38 rfl rfl h_x8) ?_
         refine D_one 15 _ _ rfl (by kernel_rfl) rfl rfl (fun h => by cases h) (fun h => by cases h) (w_store (ov rfl) (ov rfl) (cells_scal tS36) rfl rfl rfl (put_le (at_at (o := 1) (o' := (i.toNat * 1)) (atc (o := 0) (at0 (hdw arL))) (at_v1 h_x8)) rfl) (cell1_all rfl) (put_put (o := 1) (o' := (i.toNat * 1)) (atc (o := 0) (at0 (hdw arL))) (at_v1 h_x8) rfl (put_v1 h_x8 (x := x7)) (putc (o := 0) (putw (Eq.trans arL (Eq.symm arL)))))) ?_
         refine D_done (by kernel_rfl) ?_
         exact ⟨((api_Rest.mk o4.Number (vset o4.Frame i x7) (vset o4.States i 1) o4.Sound o4.Copies o4.Conflict), (differ2 || ((!decide (x3 = 0)) && (!decide (x4 = x5))))), h, Ent.sel [some 0] (sr 0 rfl (.ptr _ _ _ rfl) <| sd 1 rfl rfl <| sd 4 rfl rfl <| sd 5 rfl rfl <| sd 8 rfl rfl <| sd 11 rfl rfl <| sd 12 rfl rfl <| sd 13 rfl rfl <| sn) (.cons rfl (ro1 (by exact Eq.trans (b := 132) (lnC (n := 131) (lnA (m := 64) (n := 67) arL (lnA (m := 64) (n := 3) arL (lnC (n := 2) (lnC (n := 1) (lnC (n := 0) (lnN))))))) tZ_81.symm) (rld (alC rfl (alA (arD fun _ => rfl) (alA (arD fun _ => rfl) (alC rfl (alC rfl (alC rfl (alN))))))))) <| .nil) rfl rfl⟩
        ·
         refine D_many [6, 11, 13] (by kernel_rfl) (.q rfl rfl rfl (v_ixAG (ov rfl) (ov rfl) tR38 rfl rfl h_x7) ?_ <| .w rfl rfl rfl (fun h => by cases h) (fun h => by cases h) (w_store (ov rfl) (ov rfl) (cells_scal tS3) rfl rfl rfl (put_le (at_at (o := 65) (o' := (i.toNat * 1)) (atc (o := 64) (ata (m := 64) (o := 0) arL (at0 (hdw arL)))) (at_v1 h_x6)) rfl) (cell1_all rfl) (put_put (o := 65) (o' := (i.toNat * 1)) (atc (o := 64) (ata (m := 64) (o := 0) arL (at0 (hdw arL)))) (at_v1 h_x6) rfl (put_v1 h_x6 (x := 1)) (putc (o := 64) (puta (m := 64) (o := 0) arL (putw (Eq.trans arL (Eq.symm arL))))))) ?_ <| .q rfl rfl rfl (v_fieldP (ov rfl) rfl rfl tF81_1) ?_ <| .nil) 
         ·
          refine D_many [7, 11, 13] (by kernel_rfl) (.q rfl rfl rfl (v_loadS (ov rfl) rfl rfl rfl tS36 (at_get (at_at (o := 1) (o' := (i.toNat * 1)) (atc (o := 0) (at0 (hdw arL))) (at_v1 h_x7)))) ?_ <| .w rfl rfl rfl (fun h => by cases h) (fun h => by cases h) (w_store (ov rfl) (ov rfl) (cells_scal tS3) rfl rfl rfl (put_le (at_at (o := 65) (o' := (i.toNat * 1)) (atc (o := 64) (ata (m := 64) (o := 0) arL (at0 (hdw arL)))) (at_v1 h_x6)) rfl) (cell1_all rfl) (put_put (o := 65) (o' := (i.toNat * 1)) (atc (o := 64) (ata (m := 64) (o := 0) arL (at0 (hdw arL)))) (at_v1 h_x6) rfl (put_v1 h_x6 (x := 1)) (putc (o := 64) (puta (m := 64) (o := 0) arL (putw (Eq.trans arL (Eq.symm arL))))))) ?_ <| .q rfl rfl rfl (v_fieldP (ov rfl) rfl rfl tF81_1) ?_ <| .nil) 
          ·
           refine D_twoQ 13 11 rfl rfl (by kernel_rfl) rfl rfl rfl rfl (fun h => by cases h) (fun h => by cases h) (v_fieldP (ov rfl) rfl rfl tF81_1) (w_store (ov rfl) (ov rfl) (cells_scal tS3) rfl rfl rfl (put_le (at_at (o := 65) (o' := (i.toNat * 1)) (atc (o := 64) (ata (m := 64) (o := 0) arL (at0 (hdw arL)))) (at_v1 h_x6)) rfl) (cell1_all rfl) (put_put (o := 65) (o' := (i.toNat * 1)) (atc (o := 64) (ata (m := 64) (o := 0) arL (at0 (hdw arL)))) (at_v1 h_x6) rfl (put_v1 h_x6 (x := 1)) (putc (o := 64) (puta (m := 64) (o := 0) arL (putw (Eq.trans arL (Eq.symm arL))))))) ?_ ?_
           ·
            refine D_one 11 _ _ rfl (by kernel_rfl) rfl rfl (fun h => by cases h) (fun h => by cases h) (w_store (ov rfl) (ov rfl) (cells_scal tS3) rfl rfl rfl (put_le (at_at (o := 65) (o' := (i.toNat * 1)) (atc (o := 64) (ata (m := 64) (o := 0) arL (at0 (hdw arL)))) (at_v1 h_x6)) rfl) (cell1_all rfl) (put_put (o := 65) (o' := (i.toNat * 1)) (atc (o := 64) (ata (m := 64) (o := 0) arL (at0 (hdw arL)))) (at_v1 h_x6) rfl (put_v1 h_x6 (x := 1)) (putc (o := 64) (puta (m := 64) (o := 0) arL (putw (Eq.trans arL (Eq.symm arL))))))) ?_
            obtain ⟨x8, h_x8, h⟩ := bnd h
            refine D_q0 14 _ rfl (by kernel_rfl) rfl rfl (v_ixAG (ov rfl) (ov rfl) tR38 rfl rfl h_x8) ?_
            refine D_one 15 _ _ rfl (by kernel_rfl) rfl rfl (fun h => by cases h) (fun h => by cases h) (w_store (ov rfl) (ov rfl) (cells_scal tS36) rfl rfl rfl (put_le (at_at (o := 1) (o' := (i.toNat * 1)) (atc (o := 0) (at0 (hdw arL))) (at_v1 h_x8)) rfl) (cell1_all rfl) (put_put (o := 1) (o' := (i.toNat * 1)) (atc (o := 0) (at0 (hdw arL))) (at_v1 h_x8) rfl (put_v1 h_x8 (x := x7)) (putc (o := 0) (putw (Eq.trans arL (Eq.symm arL)))))) ?_
            refine D_done (by kernel_rfl) ?_
            exact ⟨((api_Rest.mk o4.Number (vset o4.Frame i x7) (vset o4.States i 1) o4.Sound o4.Copies o4.Conflict), (differ2 || ((!decide (x3 = 0)) && (!decide (x4 = x5))))), h, Ent.sel [some 0] (sr 0 rfl (.ptr _ _ _ rfl) <| sd 1 rfl rfl <| sd 4 rfl rfl <| sd 5 rfl rfl <| sd 8 rfl rfl <| sd 11 rfl rfl <| sd 12 rfl rfl <| sd 13 rfl rfl <| sn) (.cons rfl (ro1 (by exact Eq.trans (b := 132) (lnC (n := 131) (lnA (m := 64) (n := 67) arL (lnA (m := 64) (n := 3) arL (lnC (n := 2) (lnC (n := 1) (lnC (n := 0) (lnN))))))) tZ_81.symm) (rld (alC rfl (alA (arD fun _ => rfl) (alA (arD fun _ => rfl) (alC rfl (alC rfl (alC rfl (alN))))))))) <| .nil) rfl rfl⟩
           ·
            refine D_q0 13 _ rfl (by kernel_rfl) rfl rfl (v_fieldP (ov rfl) rfl rfl tF81_1) ?_
            obtain ⟨x8, h_x8, h⟩ := bnd h
            refine D_q0 14 _ rfl (by kernel_rfl) rfl rfl (v_ixAG (ov rfl) (ov rfl) tR38 rfl rfl h_x8) ?_
            refine D_one 15 _ _ rfl (by kernel_rfl) rfl rfl (fun h => by cases h) (fun h => by cases h) (w_store (ov rfl) (ov rfl) (cells_scal tS36) rfl rfl rfl (put_le (at_at (o := 1) (o' := (i.toNat * 1)) (atc (o := 0) (at0 (hdw arL))) (at_v1 h_x8)) rfl) (cell1_all rfl) (put_put (o := 1) (o' := (i.toNat * 1)) (atc (o := 0) (at0 (hdw arL))) (at_v1 h_x8) rfl (put_v1 h_x8 (x := x7)) (putc (o := 0) (putw (Eq.trans arL (Eq.symm arL)))))) ?_
            refine D_done (by kernel_rfl) ?_
            exact ⟨((api_Rest.mk o4.Number (vset o4.Frame i x7) (vset o4.States i 1) o4.Sound o4.Copies o4.Conflict), (differ2 || ((!decide (x3 = 0)) && (!decide (x4 = x5))))), h, Ent.sel [some 0] (sr 0 rfl (.ptr _ _ _ rfl) <| sd 1 rfl rfl <| sd 4 rfl rfl <| sd 5 rfl rfl <| sd 8 rfl rfl <| sd 11 rfl rfl <| sd 12 rfl rfl <| sd 13 rfl rfl <| sn) (.cons rfl (ro1 (by exact Eq.trans (b := 132) (lnC (n := 131) (lnA (m := 64) (n := 67) arL (lnA (m := 64) (n := 3) arL (lnC (n := 2) (lnC (n := 1) (lnC (n := 0) (lnN))))))) tZ_81.symm) (rld (alC rfl (alA (arD fun _ => rfl) (alA (arD fun _ => rfl) (alC rfl (alC rfl (alC rfl (alN))))))))) <| .nil) rfl rfl⟩
          ·
           refine D_q0 7 _ rfl (by kernel_rfl) rfl rfl (v_loadS (ov rfl) rfl rfl rfl tS36 (at_get (at_at (o := 1) (o' := (i.toNat * 1)) (atc (o := 0) (at0 (hdw arL))) (at_v1 h_x7)))) ?_
           refine D_q0 13 _ rfl (by kernel_rfl) rfl rfl (v_fieldP (ov rfl) rfl rfl tF81_1) ?_
           obtain ⟨x8, h_x8, h⟩ := bnd h
           refine D_q0 14 _ rfl (by kernel_rfl) rfl rfl (v_ixAG (ov rfl) (ov rfl) tR38 rfl rfl h_x8) ?_
           refine D_one 15 _ _ rfl (by kernel_rfl) rfl rfl (fun h => by cases h) (fun h => by cases h) (w_store (ov rfl) (ov rfl) (cells_scal tS36) rfl rfl rfl (put_le (at_at (o := 1) (o' := (i.toNat * 1)) (atc (o := 0) (at0 (hdw arL))) (at_v1 h_x8)) rfl) (cell1_all rfl) (put_put (o := 1) (o' := (i.toNat * 1)) (atc (o := 0) (at0 (hdw arL))) (at_v1 h_x8) rfl (put_v1 h_x8 (x := x7)) (putc (o := 0) (putw (Eq.trans arL (Eq.symm arL)))))) ?_
           refine D_done (by kernel_rfl) ?_
           exact ⟨((api_Rest.mk o4.Number (vset o4.Frame i x7) (vset o4.States i 1) o4.Sound o4.Copies o4.Conflict), (differ2 || ((!decide (x3 = 0)) && (!decide (x4 = x5))))), h, Ent.sel [some 0] (sr 0 rfl (.ptr _ _ _ rfl) <| sd 1 rfl rfl <| sd 4 rfl rfl <| sd 5 rfl rfl <| sd 8 rfl rfl <| sd 11 rfl rfl <| sd 12 rfl rfl <| sd 13 rfl rfl <| sn) (.cons rfl (ro1 (by exact Eq.trans (b := 132) (lnC (n := 131) (lnA (m := 64) (n := 67) arL (lnA (m := 64) (n := 3) arL (lnC (n := 2) (lnC (n := 1) (lnC (n := 0) (lnN))))))) tZ_81.symm) (rld (alC rfl (alA (arD fun _ => rfl) (alA (arD fun _ => rfl) (alC rfl (alC rfl (alC rfl (alN))))))))) <| .nil) rfl rfl⟩
          ·
           refine D_twoQ 7 11 rfl rfl (by kernel_rfl) rfl rfl rfl rfl (fun h => by cases h) (fun h => by cases h) (v_loadS (ov rfl) rfl rfl rfl tS36 (at_get (at_at (o := 1) (o' := (i.toNat * 1)) (atc (o := 0) (at0 (hdw arL))) (at_v1 h_x7)))) (w_store (ov rfl) (ov rfl) (cells_scal tS3) rfl rfl rfl (put_le (at_at (o := 65) (o' := (i.toNat * 1)) (atc (o := 64) (ata (m := 64) (o := 0) arL (at0 (hdw arL)))) (at_v1 h_x6)) rfl) (cell1_all rfl) (put_put (o := 65) (o' := (i.toNat * 1)) (atc (o := 64) (ata (m := 64) (o := 0) arL (at0 (hdw arL)))) (at_v1 h_x6) rfl (put_v1 h_x6 (x := 1)) (putc (o := 64) (puta (m := 64) (o := 0) arL (putw (Eq.trans arL (Eq.symm arL))))))) ?_ ?_
           ·
            refine D_one 11 _ _ rfl (by kernel_rfl) rfl rfl (fun h => by cases h) (fun h => by cases h) (w_store (ov rfl) (ov rfl) (cells_scal tS3) rfl rfl rfl (put_le (at_at (o := 65) (o' := (i.toNat * 1)) (atc (o := 64) (ata (m := 64) (o := 0) arL (at0 (hdw arL)))) (at_v1 h_x6)) rfl) (cell1_all rfl) (put_put (o := 65) (o' := (i.toNat * 1)) (atc (o := 64) (ata (m := 64) (o := 0) arL (at0 (hdw arL)))) (at_v1 h_x6) rfl (put_v1 h_x6 (x := 1)) (putc (o := 64) (puta (m := 64) (o := 0) arL (putw (Eq.trans arL (Eq.symm arL))))))) ?_
            obtain ⟨x8, h_x8, h⟩ := bnd h
            refine D_q0 14 _ rfl (by kernel_rfl) rfl rfl (v_ixAG (ov rfl) (ov rfl) tR38 rfl rfl h_x8) ?_
            refine D_one 15 _ _ rfl (by kernel_rfl) rfl rfl (fun h => by cases h) (fun h => by cases h) (w_store (ov rfl) (ov rfl) (cells_scal tS36) rfl rfl rfl (put_le (at_at (o := 1) (o' := (i.toNat * 1)) (atc (o := 0) (at0 (hdw arL))) (at_v1 h_x8)) rfl) (cell1_all rfl) (put_put (o := 1) (o' := (i.toNat * 1)) (atc (o := 0) (at0 (hdw arL))) (at_v1 h_x8) rfl (put_v1 h_x8 (x := x7)) (putc (o := 0) (putw (Eq.trans arL (Eq.symm arL)))))) ?_
            refine D_done (by kernel_rfl) ?_
            exact ⟨((api_Rest.mk o4.Number (vset o4.Frame i x7) (vset o4.States i 1) o4.Sound o4.Copies o4.Conflict), (differ2 || ((!decide (x3 = 0)) && (!decide (x4 = x5))))), h, Ent.sel [some 0] (sr 0 rfl (.ptr _ _ _ rfl) <| sd 1 rfl rfl <| sd 4 rfl rfl <| sd 5 rfl rfl <| sd 8 rfl rfl <| sd 11 rfl rfl <| sd 12 rfl rfl <| sd 13 rfl rfl <| sn) (.cons rfl (ro1 (by exact Eq.trans (b := 132) (lnC (n := 131) (lnA (m := 64) (n := 67) arL (lnA (m := 64) (n := 3) arL (lnC (n := 2) (lnC (n := 1) (lnC (n := 0) (lnN))))))) tZ_81.symm) (rld (alC rfl (alA (arD fun _ => rfl) (alA (arD fun _ => rfl) (alC rfl (alC rfl (alC rfl (alN))))))))) <| .nil) rfl rfl⟩
           ·
            refine D_q0 7 _ rfl (by kernel_rfl) rfl rfl (v_loadS (ov rfl) rfl rfl rfl tS36 (at_get (at_at (o := 1) (o' := (i.toNat * 1)) (atc (o := 0) (at0 (hdw arL))) (at_v1 h_x7)))) ?_
            obtain ⟨x8, h_x8, h⟩ := bnd h
            refine D_q0 14 _ rfl (by kernel_rfl) rfl rfl (v_ixAG (ov rfl) (ov rfl) tR38 rfl rfl h_x8) ?_
            refine D_one 15 _ _ rfl (by kernel_rfl) rfl rfl (fun h => by cases h) (fun h => by cases h) (w_store (ov rfl) (ov rfl) (cells_scal tS36) rfl rfl rfl (put_le (at_at (o := 1) (o' := (i.toNat * 1)) (atc (o := 0) (at0 (hdw arL))) (at_v1 h_x8)) rfl) (cell1_all rfl) (put_put (o := 1) (o' := (i.toNat * 1)) (atc (o := 0) (at0 (hdw arL))) (at_v1 h_x8) rfl (put_v1 h_x8 (x := x7)) (putc (o := 0) (putw (Eq.trans arL (Eq.symm arL)))))) ?_
            refine D_done (by kernel_rfl) ?_
            exact ⟨((api_Rest.mk o4.Number (vset o4.Frame i x7) (vset o4.States i 1) o4.Sound o4.Copies o4.Conflict), (differ2 || ((!decide (x3 = 0)) && (!decide (x4 = x5))))), h, Ent.sel [some 0] (sr 0 rfl (.ptr _ _ _ rfl) <| sd 1 rfl rfl <| sd 4 rfl rfl <| sd 5 rfl rfl <| sd 8 rfl rfl <| sd 11 rfl rfl <| sd 12 rfl rfl <| sd 13 rfl rfl <| sn) (.cons rfl (ro1 (by exact Eq.trans (b := 132) (lnC (n := 131) (lnA (m := 64) (n := 67) arL (lnA (m := 64) (n := 3) arL (lnC (n := 2) (lnC (n := 1) (lnC (n := 0) (lnN))))))) tZ_81.symm) (rld (alC rfl (alA (arD fun _ => rfl) (alA (arD fun _ => rfl) (alC rfl (alC rfl (alC rfl (alN))))))))) <| .nil) rfl rfl⟩
         ·
          refine D_q0 6 _ rfl (by kernel_rfl) rfl rfl (v_ixAG (ov rfl) (ov rfl) tR38 rfl rfl h_x7) ?_
          refine D_q0 7 _ rfl (by kernel_rfl) rfl rfl (v_loadS (ov rfl) rfl rfl rfl tS36 (at_get (at_at (o := 1) (o' := (i.toNat * 1)) (atc (o := 0) (at0 (hdw arL))) (at_v1 h_x7)))) ?_
          refine D_q0 13 _ rfl (by kernel_rfl) rfl rfl (v_fieldP (ov rfl) rfl rfl tF81_1) ?_
          obtain ⟨x8, h_x8, h⟩ := bnd h
          refine D_q0 14 _ rfl (by kernel_rfl) rfl rfl (v_ixAG (ov rfl) (ov rfl) tR38 rfl rfl h_x8) ?_
          refine D_one 15 _ _ rfl (by kernel_rfl) rfl rfl (fun h => by cases h) (fun h => by cases h) (w_store (ov rfl) (ov rfl) (cells_scal tS36) rfl rfl rfl (put_le (at_at (o := 1) (o' := (i.toNat * 1)) (atc (o := 0) (at0 (hdw arL))) (at_v1 h_x8)) rfl) (cell1_all rfl) (put_put (o := 1) (o' := (i.toNat * 1)) (atc (o := 0) (at0 (hdw arL))) (at_v1 h_x8) rfl (put_v1 h_x8 (x := x7)) (putc (o := 0) (putw (Eq.trans arL (Eq.symm arL)))))) ?_
          refine D_done (by kernel_rfl) ?_
          exact ⟨((api_Rest.mk o4.Number (vset o4.Frame i x7) (vset o4.States i 1) o4.Sound o4.Copies o4.Conflict), (differ2 || ((!decide (x3 = 0)) && (!decide (x4 = x5))))), h, Ent.sel [some 0] (sr 0 rfl (.ptr _ _ _ rfl) <| sd 1 rfl rfl <| sd 4 rfl rfl <| sd 5 rfl rfl <| sd 8 rfl rfl <| sd 11 rfl rfl <| sd 12 rfl rfl <| sd 13 rfl rfl <| sn) (.cons rfl (ro1 (by exact Eq.trans (b := 132) (lnC (n := 131) (lnA (m := 64) (n := 67) arL (lnA (m := 64) (n := 3) arL (lnC (n := 2) (lnC (n := 1) (lnC (n := 0) (lnN))))))) tZ_81.symm) (rld (alC rfl (alA (arD fun _ => rfl) (alA (arD fun _ => rfl) (alC rfl (alC rfl (alC rfl (alN))))))))) <| .nil) rfl rfl⟩
         ·
          refine D_twoQ 6 11 rfl rfl (by kernel_rfl) rfl rfl rfl rfl (fun h => by cases h) (fun h => by cases h) (v_ixAG (ov rfl) (ov rfl) tR38 rfl rfl h_x7) (w_store (ov rfl) (ov rfl) (cells_scal tS3) rfl rfl rfl (put_le (at_at (o := 65) (o' := (i.toNat * 1)) (atc (o := 64) (ata (m := 64) (o := 0) arL (at0 (hdw arL)))) (at_v1 h_x6)) rfl) (cell1_all rfl) (put_put (o := 65) (o' := (i.toNat * 1)) (atc (o := 64) (ata (m := 64) (o := 0) arL (at0 (hdw arL)))) (at_v1 h_x6) rfl (put_v1 h_x6 (x := 1)) (putc (o := 64) (puta (m := 64) (o := 0) arL (putw (Eq.trans arL (Eq.symm arL))))))) ?_ ?_
          ·
           refine D_twoQ 7 11 rfl rfl (by kernel_rfl) rfl rfl rfl rfl (fun h => by cases h) (fun h => by cases h) (v_loadS (ov rfl) rfl rfl rfl tS36 (at_get (at_at (o := 1) (o' := (i.toNat * 1)) (atc (o := 0) (at0 (hdw arL))) (at_v1 h_x7)))) (w_store (ov rfl) (ov rfl) (cells_scal tS3) rfl rfl rfl (put_le (at_at (o := 65) (o' := (i.toNat * 1)) (atc (o := 64) (ata (m := 64) (o := 0) arL (at0 (hdw arL)))) (at_v1 h_x6)) rfl) (cell1_all rfl) (put_put (o := 65) (o' := (i.toNat * 1)) (atc (o := 64) (ata (m := 64) (o := 0) arL (at0 (hdw arL)))) (at_v1 h_x6) rfl (put_v1 h_x6 (x := 1)) (putc (o := 64) (puta (m := 64) (o := 0) arL (putw (Eq.trans arL (Eq.symm arL))))))) ?_ ?_
           ·
            refine D_one 11 _ _ rfl (by kernel_rfl) rfl rfl (fun h => by cases h) (fun h => by cases h) (w_store (ov rfl) (ov rfl) (cells_scal tS3) rfl rfl rfl (put_le (at_at (o := 65) (o' := (i.toNat * 1)) (atc (o := 64) (ata (m := 64) (o := 0) arL (at0 (hdw arL)))) (at_v1 h_x6)) rfl) (cell1_all rfl) (put_put (o := 65) (o' := (i.toNat * 1)) (atc (o := 64) (ata (m := 64) (o := 0) arL (at0 (hdw arL)))) (at_v1 h_x6) rfl (put_v1 h_x6 (x := 1)) (putc (o := 64) (puta (m := 64) (o := 0) arL (putw (Eq.trans arL (Eq.symm arL))))))) ?_
            obtain ⟨x8, h_x8, h⟩ := bnd h
            refine D_q0 14 _ rfl (by kernel_rfl) rfl rfl (v_ixAG (ov rfl) (ov rfl) tR38 rfl rfl h_x8) ?_
            refine D_one 15 _ _ rfl (by kernel_rfl) rfl rfl (fun h => by cases h) (fun h => by cases h) (w_store (ov rfl) (ov rfl) (cells_scal tS36) rfl rfl rfl (put_le (at_at (o := 1) (o' := (i.toNat * 1)) (atc (o := 0) (at0 (hdw arL))) (at_v1 h_x8)) rfl) (cell1_all rfl) (put_put (o := 1) (o' := (i.toNat * 1)) (atc (o := 0) (at0 (hdw arL))) (at_v1 h_x8) rfl (put_v1 h_x8 (x := x7)) (putc (o := 0) (putw (Eq.trans arL (Eq.symm arL)))))) ?_
            refine D_done (by kernel_rfl) ?_
            exact ⟨((api_Rest.mk o4.Number (vset o4.Frame i x7) (vset o4.States i 1) o4.Sound o4.Copies o4.Conflict), (differ2 || ((!decide (x3 = 0)) && (!decide (x4 = x5))))), h, Ent.sel [some 0] (sr 0 rfl (.ptr _ _ _ rfl) <| sd 1 rfl rfl <| sd 4 rfl rfl <| sd 5 rfl rfl <| sd 8 rfl rfl <| sd 11 rfl rfl <| sd 12 rfl rfl <| sd 13 rfl rfl <| sn) (.cons rfl (ro1 (by exact Eq.trans (b := 132) (lnC (n := 131) (lnA (m := 64) (n := 67) arL (lnA (m := 64) (n := 3) arL (lnC (n := 2) (lnC (n := 1) (lnC (n := 0) (lnN))))))) tZ_81.symm) (rld (alC rfl (alA (arD fun _ => rfl) (alA (arD fun _ => rfl) (alC rfl (alC rfl (alC rfl (alN))))))))) <| .nil) rfl rfl⟩
           ·
            refine D_q0 7 _ rfl (by kernel_rfl) rfl rfl (v_loadS (ov rfl) rfl rfl rfl tS36 (at_get (at_at (o := 1) (o' := (i.toNat * 1)) (atc (o := 0) (at0 (hdw arL))) (at_v1 h_x7)))) ?_
            obtain ⟨x8, h_x8, h⟩ := bnd h
            refine D_q0 14 _ rfl (by kernel_rfl) rfl rfl (v_ixAG (ov rfl) (ov rfl) tR38 rfl rfl h_x8) ?_
            refine D_one 15 _ _ rfl (by kernel_rfl) rfl rfl (fun h => by cases h) (fun h => by cases h) (w_store (ov rfl) (ov rfl) (cells_scal tS36) rfl rfl rfl (put_le (at_at (o := 1) (o' := (i.toNat * 1)) (atc (o := 0) (at0 (hdw arL))) (at_v1 h_x8)) rfl) (cell1_all rfl) (put_put (o := 1) (o' := (i.toNat * 1)) (atc (o := 0) (at0 (hdw arL))) (at_v1 h_x8) rfl (put_v1 h_x8 (x := x7)) (putc (o := 0) (putw (Eq.trans arL (Eq.symm arL)))))) ?_
            refine D_done (by kernel_rfl) ?_
            exact ⟨((api_Rest.mk o4.Number (vset o4.Frame i x7) (vset o4.States i 1) o4.Sound o4.Copies o4.Conflict), (differ2 || ((!decide (x3 = 0)) && (!decide (x4 = x5))))), h, Ent.sel [some 0] (sr 0 rfl (.ptr _ _ _ rfl) <| sd 1 rfl rfl <| sd 4 rfl rfl <| sd 5 rfl rfl <| sd 8 rfl rfl <| sd 11 rfl rfl <| sd 12 rfl rfl <| sd 13 rfl rfl <| sn) (.cons rfl (ro1 (by exact Eq.trans (b := 132) (lnC (n := 131) (lnA (m := 64) (n := 67) arL (lnA (m := 64) (n := 3) arL (lnC (n := 2) (lnC (n := 1) (lnC (n := 0) (lnN))))))) tZ_81.symm) (rld (alC rfl (alA (arD fun _ => rfl) (alA (arD fun _ => rfl) (alC rfl (alC rfl (alC rfl (alN))))))))) <| .nil) rfl rfl⟩
          ·
           refine D_q0 6 _ rfl (by kernel_rfl) rfl rfl (v_ixAG (ov rfl) (ov rfl) tR38 rfl rfl h_x7) ?_
           refine D_q0 7 _ rfl (by kernel_rfl) rfl rfl (v_loadS (ov rfl) rfl rfl rfl tS36 (at_get (at_at (o := 1) (o' := (i.toNat * 1)) (atc (o := 0) (at0 (hdw arL))) (at_v1 h_x7)))) ?_
           obtain ⟨x8, h_x8, h⟩ := bnd h
           refine D_q0 14 _ rfl (by kernel_rfl) rfl rfl (v_ixAG (ov rfl) (ov rfl) tR38 rfl rfl h_x8) ?_
           refine D_one 15 _ _ rfl (by kernel_rfl) rfl rfl (fun h => by cases h) (fun h => by cases h) (w_store (ov rfl) (ov rfl) (cells_scal tS36) rfl rfl rfl (put_le (at_at (o := 1) (o' := (i.toNat * 1)) (atc (o := 0) (at0 (hdw arL))) (at_v1 h_x8)) rfl) (cell1_all rfl) (put_put (o := 1) (o' := (i.toNat * 1)) (atc (o := 0) (at0 (hdw arL))) (at_v1 h_x8) rfl (put_v1 h_x8 (x := x7)) (putc (o := 0) (putw (Eq.trans arL (Eq.symm arL)))))) ?_
           refine D_done (by kernel_rfl) ?_
           exact ⟨((api_Rest.mk o4.Number (vset o4.Frame i x7) (vset o4.States i 1) o4.Sound o4.Copies o4.Conflict), (differ2 || ((!decide (x3 = 0)) && (!decide (x4 = x5))))), h, Ent.sel [some 0] (sr 0 rfl (.ptr _ _ _ rfl) <| sd 1 rfl rfl <| sd 4 rfl rfl <| sd 5 rfl rfl <| sd 8 rfl rfl <| sd 11 rfl rfl <| sd 12 rfl rfl <| sd 13 rfl rfl <| sn) (.cons rfl (ro1 (by exact Eq.trans (b := 132) (lnC (n := 131) (lnA (m := 64) (n := 67) arL (lnA (m := 64) (n := 3) arL (lnC (n := 2) (lnC (n := 1) (lnC (n := 0) (lnN))))))) tZ_81.symm) (rld (alC rfl (alA (arD fun _ => rfl) (alA (arD fun _ => rfl) (alC rfl (alC rfl (alC rfl (alN))))))))) <| .nil) rfl rfl⟩
       ·
        refine D_q0 5 _ rfl (by kernel_rfl) rfl rfl (v_fieldP (ov rfl) rfl rfl tF81_1) ?_
        obtain ⟨x7, h_x7, h⟩ := bnd h
        refine D_q0 6 _ rfl (by kernel_rfl) rfl rfl (v_ixAG (ov rfl) (ov rfl) tR38 rfl rfl h_x7) ?_
        refine D_q0 7 _ rfl (by kernel_rfl) rfl rfl (v_loadS (ov rfl) rfl rfl rfl tS36 (at_get (at_at (o := 1) (o' := (i.toNat * 1)) (atc (o := 0) (at0 (hdw arL))) (at_v1 h_x7)))) ?_
        refine D_q0 12 _ rfl (by kernel_rfl) rfl rfl (v_nilCheckP (ov rfl) rfl rfl) ?_
        refine D_q0 13 _ rfl (by kernel_rfl) rfl rfl (v_fieldP (ov rfl) rfl rfl tF81_1) ?_
        obtain ⟨x8, h_x8, h⟩ := bnd h
        refine D_q0 14 _ rfl (by kernel_rfl) rfl rfl (v_ixAG (ov rfl) (ov rfl) tR38 rfl rfl h_x8) ?_
        refine D_one 15 _ _ rfl (by kernel_rfl) rfl rfl (fun h => by cases h) (fun h => by cases h) (w_store (ov rfl) (ov rfl) (cells_scal tS36) rfl rfl rfl (put_le (at_at (o := 1) (o' := (i.toNat * 1)) (atc (o := 0) (at0 (hdw arL))) (at_v1 h_x8)) rfl) (cell1_all rfl) (put_put (o := 1) (o' := (i.toNat * 1)) (atc (o := 0) (at0 (hdw arL))) (at_v1 h_x8) rfl (put_v1 h_x8 (x := x7)) (putc (o := 0) (putw (Eq.trans arL (Eq.symm arL)))))) ?_
        refine D_done (by kernel_rfl) ?_
        exact ⟨((api_Rest.mk o4.Number (vset o4.Frame i x7) (vset o4.States i 1) o4.Sound o4.Copies o4.Conflict), (differ2 || ((!decide (x3 = 0)) && (!decide (x4 = x5))))), h, Ent.sel [some 0] (sr 0 rfl (.ptr _ _ _ rfl) <| sd 1 rfl rfl <| sd 4 rfl rfl <| sd 5 rfl rfl <| sd 8 rfl rfl <| sd 11 rfl rfl <| sd 12 rfl rfl <| sd 13 rfl rfl <| sn) (.cons rfl (ro1 (by exact Eq.trans (b := 132) (lnC (n := 131) (lnA (m := 64) (n := 67) arL (lnA (m := 64) (n := 3) arL (lnC (n := 2) (lnC (n := 1) (lnC (n := 0) (lnN))))))) tZ_81.symm) (rld (alC rfl (alA (arD fun _ => rfl) (alA (arD fun _ => rfl) (alC rfl (alC rfl (alC rfl (alN))))))))) <| .nil) rfl rfl⟩
       ·
        refine D_many [5, 11, 13] (by kernel_rfl) (.q rfl rfl rfl (v_fieldP (ov rfl) rfl rfl tF81_1) ?_ <| .w rfl rfl rfl (fun h => by cases h) (fun h => by cases h) (w_store (ov rfl) (ov rfl) (cells_scal tS3) rfl rfl rfl (put_le (at_at (o := 65) (o' := (i.toNat * 1)) (atc (o := 64) (ata (m := 64) (o := 0) arL (at0 (hdw arL)))) (at_v1 h_x6)) rfl) (cell1_all rfl) (put_put (o := 65) (o' := (i.toNat * 1)) (atc (o := 64) (ata (m := 64) (o := 0) arL (at0 (hdw arL)))) (at_v1 h_x6) rfl (put_v1 h_x6 (x := 1)) (putc (o := 64) (puta (m := 64) (o := 0) arL (putw (Eq.trans arL (Eq.symm arL))))))) ?_ <| .q rfl rfl rfl (v_fieldP (ov rfl) rfl rfl tF81_1) ?_ <| .nil) 
        ·
         obtain ⟨x7, h_x7, h⟩ := bnd h
         refine D_many [6, 11, 13] (by kernel_rfl) (.q rfl rfl rfl (v_ixAG (ov rfl) (ov rfl) tR38 rfl rfl h_x7) ?_ <| .w rfl rfl rfl (fun h => by cases h) (fun h => by cases h) (w_store (ov rfl) (ov rfl) (cells_scal tS3) rfl rfl rfl (put_le (at_at (o := 65) (o' := (i.toNat * 1)) (atc (o := 64) (ata (m := 64) (o := 0) arL (at0 (hdw arL)))) (at_v1 h_x6)) rfl) (cell1_all rfl) (put_put (o := 65) (o' := (i.toNat * 1)) (atc (o := 64) (ata (m := 64) (o := 0) arL (at0 (hdw arL)))) (at_v1 h_x6) rfl (put_v1 h_x6 (x := 1)) (putc (o := 64) (puta (m := 64) (o := 0) arL (putw (Eq.trans arL (Eq.symm arL))))))) ?_ <| .q rfl rfl rfl (v_fieldP (ov rfl) rfl rfl tF81_1) ?_ <| .nil) 
         ·
          refine D_many [7, 11, 13] (by kernel_rfl) (.q rfl rfl rfl (v_loadS (ov rfl) rfl rfl rfl tS36 (at_get (at_at (o := 1) (o' := (i.toNat * 1)) (atc (o := 0) (at0 (hdw arL))) (at_v1 h_x7)))) ?_ <| .w rfl rfl rfl (fun h => by cases h) (fun h => by cases h) (w_store (ov rfl) (ov rfl) (cells_scal tS3) rfl rfl rfl (put_le (at_at (o := 65) (o' := (i.toNat * 1)) (atc (o := 64) (ata (m := 64) (o := 0) arL (at0 (hdw arL)))) (at_v1 h_x6)) rfl) (cell1_all rfl) (put_put (o := 65) (o' := (i.toNat * 1)) (atc (o := 64) (ata (m := 64) (o := 0) arL (at0 (hdw arL)))) (at_v1 h_x6) rfl (put_v1 h_x6 (x := 1)) (putc (o := 64) (puta (m := 64) (o := 0) arL (putw (Eq.trans arL (Eq.symm arL))))))) ?_ <| .q rfl rfl rfl (v_fieldP (ov rfl) rfl rfl tF81_1) ?_ <| .nil) 
          ·
           refine D_twoQ 13 11 rfl rfl (by kernel_rfl) rfl rfl rfl rfl (fun h => by cases h) (fun h => by cases h) (v_fieldP (ov rfl) rfl rfl tF81_1) (w_store (ov rfl) (ov rfl) (cells_scal tS3) rfl rfl rfl (put_le (at_at (o := 65) (o' := (i.toNat * 1)) (atc (o := 64) (ata (m := 64) (o := 0) arL (at0 (hdw arL)))) (at_v1 h_x6)) rfl) (cell1_all rfl) (put_put (o := 65) (o' := (i.toNat * 1)) (atc (o := 64) (ata (m := 64) (o := 0) arL (at0 (hdw arL)))) (at_v1 h_x6) rfl (put_v1 h_x6 (x := 1)) (putc (o := 64) (puta (m := 64) (o := 0) arL (putw (Eq.trans arL (Eq.symm arL))))))) ?_ ?_
           ·
            refine D_one 11 _ _ rfl (by kernel_rfl) rfl rfl (fun h => by cases h) (fun h => by cases h) (w_store (ov rfl) (ov rfl) (cells_scal tS3) rfl rfl rfl (put_le (at_at (o := 65) (o' := (i.toNat * 1)) (atc (o := 64) (ata (m := 64) (o := 0) arL (at0 (hdw arL)))) (at_v1 h_x6)) rfl) (cell1_all rfl) (put_put (o := 65) (o' := (i.toNat * 1)) (atc (o := 64) (ata (m := 64) (o := 0) arL (at0 (hdw arL)))) (at_v1 h_x6) rfl (put_v1 h_x6 (x := 1)) (putc (o := 64) (puta (m := 64) (o := 0) arL (putw (Eq.trans arL (Eq.symm arL))))))) ?_
            obtain ⟨x8, h_x8, h⟩ := bnd h
            refine D_q0 14 _ rfl (by kernel_rfl) rfl rfl (v_ixAG (ov rfl) (ov rfl) tR38 rfl rfl h_x8) ?_
            refine D_one 15 _ _ rfl (by kernel_rfl) rfl rfl (fun h => by cases h) (fun h => by cases h) (w_store (ov rfl) (ov rfl) (cells_scal tS36) rfl rfl rfl (put_le (at_at (o := 1) (o' := (i.toNat * 1)) (atc (o := 0) (at0 (hdw arL))) (at_v1 h_x8)) rfl) (cell1_all rfl) (put_put (o := 1) (o' := (i.toNat * 1)) (atc (o := 0) (at0 (hdw arL))) (at_v1 h_x8) rfl (put_v1 h_x8 (x := x7)) (putc (o := 0) (putw (Eq.trans arL (Eq.symm arL)))))) ?_
            refine D_done (by kernel_rfl) ?_
            exact ⟨((api_Rest.mk o4.Number (vset o4.Frame i x7) (vset o4.States i 1) o4.Sound o4.Copies o4.Conflict), (differ2 || ((!decide (x3 = 0)) && (!decide (x4 = x5))))), h, Ent.sel [some 0] (sr 0 rfl (.ptr _ _ _ rfl) <| sd 1 rfl rfl <| sd 4 rfl rfl <| sd 5 rfl rfl <| sd 8 rfl rfl <| sd 11 rfl rfl <| sd 12 rfl rfl <| sd 13 rfl rfl <| sn) (.cons rfl (ro1 (by exact Eq.trans (b := 132) (lnC (n := 131) (lnA (m := 64) (n := 67) arL (lnA (m := 64) (n := 3) arL (lnC (n := 2) (lnC (n := 1) (lnC (n := 0) (lnN))))))) tZ_81.symm) (rld (alC rfl (alA (arD fun _ => rfl) (alA (arD fun _ => rfl) (alC rfl (alC rfl (alC rfl (alN))))))))) <| .nil) rfl rfl⟩
           ·
            refine D_q0 13 _ rfl (by kernel_rfl) rfl rfl (v_fieldP (ov rfl) rfl rfl tF81_1) ?_
            obtain ⟨x8, h_x8, h⟩ := bnd h
            refine D_q0 14 _ rfl (by kernel_rfl) rfl rfl (v_ixAG (ov rfl) (ov rfl) tR38 rfl rfl h_x8) ?_
            refine D_one 15 _ _ rfl (by kernel_rfl) rfl rfl (fun h => by cases h) (fun h => by cases h) (w_store (ov rfl) (ov rfl) (cells_scal tS36) rfl rfl rfl (put_le (at_at (o := 1) (o' := (i.toNat * 1)) (atc (o := 0) (at0 (hdw arL))) (at_v1 h_x8)) rfl) (cell1_all rfl) (put_put (o := 1) (o' := (i.toNat * 1)) (atc (o := 0) (at0 (hdw arL))) (at_v1 h_x8) rfl (put_v1 h_x8 (x := x7)) (putc (o := 0) (putw (Eq.trans arL (Eq.symm arL)))))) ?_
            refine D_done (by kernel_rfl) ?_
            exact ⟨((api_Rest.mk o4.Number (vset o4.Frame i x7) (vset o4.States i 1) o4.Sound o4.Copies o4.Conflict), (differ2 || ((!decide (x3 = 0)) && (!decide (x4 = x5))))), h, Ent.sel [some 0] (sr 0 rfl (.ptr _ _ _ rfl) <| sd 1 rfl rfl <| sd 4 rfl rfl <| sd 5 rfl rfl <| sd 8 rfl rfl <| sd 11 rfl rfl <| sd 12 rfl rfl <| sd 13 rfl rfl <| sn) (.cons rfl (ro1 (by exact Eq.trans (b := 132) (lnC (n := 131) (lnA (m := 64) (n := 67) arL (lnA (m := 64) (n := 3) arL (lnC (n := 2) (lnC (n := 1) (lnC (n := 0) (lnN))))))) tZ_81.symm) (rld (alC rfl (alA (arD fun _ => rfl) (alA (arD fun _ => rfl) (alC rfl (alC rfl (alC rfl (alN))))))))) <| .nil) rfl rfl⟩
          ·
           refine D_q0 7 _ rfl (by kernel_rfl) rfl rfl (v_loadS (ov rfl) rfl rfl rfl tS36 (at_get (at_at (o := 1) (o' := (i.toNat * 1)) (atc (o := 0) (at0 (hdw arL))) (at_v1 h_x7)))) ?_
           refine D_q0 13 _ rfl (by kernel_rfl) rfl rfl (v_fieldP (ov rfl) rfl rfl tF81_1) ?_
           obtain ⟨x8, h_x8, h⟩ := bnd h
           refine D_q0 14 _ rfl (by kernel_rfl) rfl rfl (v_ixAG (ov rfl) (ov rfl) tR38 rfl rfl h_x8) ?_
           refine D_one 15 _ _ rfl (by kernel_rfl) rfl rfl (fun h => by cases h) (fun h => by cases h) (w_store (ov rfl) (ov rfl) (cells_scal tS36) rfl rfl rfl (put_le (at_at (o := 1) (o' := (i.toNat * 1)) (atc (o := 0) (at0 (hdw arL))) (at_v1 h_x8)) rfl) (cell1_all rfl) (put_put (o := 1) (o' := (i.toNat * 1)) (atc (o := 0) (at0 (hdw arL))) (at_v1 h_x8) rfl (put_v1 h_x8 (x := x7)) (putc (o := 0) (putw (Eq.trans arL (Eq.symm arL)))))) ?_
           refine D_done (by kernel_rfl) ?_
           exact ⟨((api_Rest.mk o4.Number (vset o4.Frame i x7) (vset o4.States i 1) o4.Sound o4.Copies o4.Conflict), (differ2 || ((!decide (x3 = 0)) && (!decide (x4 = x5))))), h, Ent.sel [some 0] (sr 0 rfl (.ptr _ _ _ rfl) <| sd 1 rfl rfl <| sd 4 rfl rfl <| sd 5 rfl rfl <| sd 8 rfl rfl <| sd 11 rfl rfl <| sd 12 rfl rfl <| sd 13 rfl rfl <| sn) (.cons rfl (ro1 (by exact Eq.trans (b := 132) (lnC (n := 131) (lnA (m := 64) (n := 67) arL (lnA (m := 64) (n := 3) arL (lnC (n := 2) (lnC (n := 1) (lnC (n := 0) (lnN))))))) tZ_81.symm) (rld (alC rfl (alA (arD fun _ => rfl) (alA (arD fun _ => rfl) (alC rfl (alC rfl (alC rfl (alN))))))))) <| .nil) rfl rfl⟩
          ·
           refine D_twoQ 7 11 rfl rfl (by kernel_rfl) rfl rfl rfl rfl (fun h => by cases h) (fun h => by cases h) (v_loadS (ov rfl) rfl rfl rfl tS36 (at_get (at_at (o := 1) (o' := (i.toNat * 1)) (atc (o := 0) (at0 (hdw arL))) (at_v1 h_x7)))) (w_store (ov rfl) (ov rfl) (cells_scal tS3) rfl rfl rfl (put_le (at_at (o := 65) (o' := (i.toNat * 1)) (atc (o := 64) (ata (m := 64) (o := 0) arL (at0 (hdw arL)))) (at_v1 h_x6)) rfl) (cell1_all rfl) (put_put (o := 65) (o' := (i.toNat * 1)) (atc (o := 64) (ata (m := 64) (o := 0) arL (at0 (hdw arL)))) (at_v1 h_x6) rfl (put_v1 h_x6 (x := 1)) (putc (o := 64) (puta (m := 64) (o := 0) arL (putw (Eq.trans arL (Eq.symm arL))))))) ?_ ?_
           ·
            refine D_one 11 _ _ rfl (by kernel_rfl) rfl rfl (fun h => by cases h) (fun h => by cases h) (w_store (ov rfl) (ov rfl) (cells_scal tS3) rfl rfl rfl (put_le (at_at (o := 65) (o' := (i.toNat * 1)) (atc (o := 64) (ata (m := 64) (o := 0) arL (at0 (hdw arL)))) (at_v1 h_x6)) rfl) (cell1_all rfl) (put_put (o := 65) (o' := (i.toNat * 1)) (atc (o := 64) (ata (m := 64) (o := 0) arL (at0 (hdw arL)))) (at_v1 h_x6) rfl (put_v1 h_x6 (x := 1)) (putc (o := 64) (puta (m := 64) (o := 0) arL (putw (Eq.trans arL (Eq.symm arL))))))) ?_
            obtain ⟨x8, h_x8, h⟩ := bnd h
            refine D_q0 14 _ rfl (by kernel_rfl) rfl rfl (v_ixAG (ov rfl) (ov rfl) tR38 rfl rfl h_x8) ?_
            refine D_one 15 _ _ rfl (by kernel_rfl) rfl rfl (fun h => by cases h) (fun h => by cases h) (w_store (ov rfl) (ov rfl) (cells_scal tS36) rfl rfl rfl (put_le (at_at (o := 1) (o' := (i.toNat * 1)) (atc (o := 0) (at0 (hdw arL))) (at_v1 h_x8)) rfl) (cell1_all rfl) (put_put (o := 1) (o' := (i.toNat * 1)) (atc (o := 0) (at0 (hdw arL))) (at_v1 h_x8) rfl (put_v1 h_x8 (x := x7)) (putc (o := 0) (putw (Eq.trans arL (Eq.symm arL)))))) ?_
            refine D_done (by kernel_rfl) ?_
            exact ⟨((api_Rest.mk o4.Number (vset o4.Frame i x7) (vset o4.States i 1) o4.Sound o4.Copies o4.Conflict), (differ2 || ((!decide (x3 = 0)) && (!decide (x4 = x5))))), h, Ent.sel [some 0] (sr 0 rfl (.ptr _ _ _ rfl) <| sd 1 rfl rfl <| sd 4 rfl rfl <| sd 5 rfl rfl <| sd 8 rfl rfl <| sd 11 rfl rfl <| sd 12 rfl rfl <| sd 13 rfl rfl <| sn) (.cons rfl (ro1 (by exact Eq.trans (b := 132) (lnC (n := 131) (lnA (m := 64) (n := 67) arL (lnA (m := 64) (n := 3) arL (lnC (n := 2) (lnC (n := 1) (lnC (n := 0) (lnN))))))) tZ_81.symm) (rld (alC rfl (alA (arD fun _ => rfl) (alA (arD fun _ => rfl) (alC rfl (alC rfl (alC rfl (alN))))))))) <| .nil) rfl rfl⟩
           ·
            refine D_q0 7 _ rfl (by kernel_rfl) rfl rfl (v_loadS (ov rfl) rfl rfl rfl tS36 (at_get (at_at (o := 1) (o' := (i.toNat * 1)) (atc (o := 0) (at0 (hdw arL))) (at_v1 h_x7)))) ?_
            obtain ⟨x8, h_x8, h⟩ := bnd h
            refine D_q0 14 _ rfl (by kernel_rfl) rfl rfl (v_ixAG (ov rfl) (ov rfl) tR38 rfl rfl h_x8) ?_
            refine D_one 15 _ _ rfl (by kernel_rfl) rfl rfl (fun h => by cases h) (fun h => by cases h) (w_store (ov rfl) (ov rfl) (cells_scal tS36) rfl rfl rfl (put_le (at_at (o := 1) (o' := (i.toNat * 1)) (atc (o := 0) (at0 (hdw arL))) (at_v1 h_x8)) rfl) (cell1_all rfl) (put_put (o := 1) (o' := (i.toNat * 1)) (atc (o := 0) (at0 (hdw arL))) (at_v1 h_x8) rfl (put_v1 h_x8 (x := x7)) (putc (o := 0) (putw (Eq.trans arL (Eq.symm arL)))))) ?_
            refine D_done (by kernel_rfl) ?_
            exact ⟨((api_Rest.mk o4.Number (vset o4.Frame i x7) (vset o4.States i 1) o4.Sound o4.Copies o4.Conflict), (differ2 || ((!decide (x3 = 0)) && (!decide (x4 = x5))))), h, Ent.sel [some 0] (sr 0 rfl (.ptr _ _ _ rfl) <| sd 1 rfl rfl <| sd 4 rfl rfl <| sd 5 rfl rfl <| sd 8 rfl rfl <| sd 11 rfl rfl <| sd 12 rfl rfl <| sd 13 rfl rfl <| sn) (.cons rfl (ro1 (by exact Eq.trans (b := 132) (lnC (n := 131) (lnA (m := 64) (n := 67) arL (lnA (m := 64) (n := 3) arL (lnC (n := 2) (lnC (n := 1) (lnC (n := 0) (lnN))))))) tZ_81.symm) (rld (alC rfl (alA (arD fun _ => rfl) (alA (arD fun _ => rfl) (alC rfl (alC rfl (alC rfl (alN))))))))) <| .nil) rfl rfl⟩
         ·
          refine D_q0 6 _ rfl (by kernel_rfl) rfl rfl (v_ixAG (ov rfl) (ov rfl) tR38 rfl rfl h_x7) ?_
          refine D_q0 7 _ rfl (by kernel_rfl) rfl rfl (v_loadS (ov rfl) rfl rfl rfl tS36 (at_get (at_at (o := 1) (o' := (i.toNat * 1)) (atc (o := 0) (at0 (hdw arL))) (at_v1 h_x7)))) ?_
          refine D_q0 13 _ rfl (by kernel_rfl) rfl rfl (v_fieldP (ov rfl) rfl rfl tF81_1) ?_
          obtain ⟨x8, h_x8, h⟩ := bnd h
          refine D_q0 14 _ rfl (by kernel_rfl) rfl rfl (v_ixAG (ov rfl) (ov rfl) tR38 rfl rfl h_x8) ?_
          refine D_one 15 _ _ rfl (by kernel_rfl) rfl rfl (fun h => by cases h) (fun h => by cases h) (w_store (ov rfl) (ov rfl) (cells_scal tS36) rfl rfl rfl (put_le (at_at (o := 1) (o' := (i.toNat * 1)) (atc (o := 0) (at0 (hdw arL))) (at_v1 h_x8)) rfl) (cell1_all rfl) (put_put (o := 1) (o' := (i.toNat * 1)) (atc (o := 0) (at0 (hdw arL))) (at_v1 h_x8) rfl (put_v1 h_x8 (x := x7)) (putc (o := 0) (putw (Eq.trans arL (Eq.symm arL)))))) ?_
          refine D_done (by kernel_rfl) ?_
          exact ⟨((api_Rest.mk o4.Number (vset o4.Frame i x7) (vset o4.States i 1) o4.Sound o4.Copies o4.Conflict), (differ2 || ((!decide (x3 = 0)) && (!decide (x4 = x5))))), h, Ent.sel [some 0] (sr 0 rfl (.ptr _ _ _ rfl) <| sd 1 rfl rfl <| sd 4 rfl rfl <| sd 5 rfl rfl <| sd 8 rfl rfl <| sd 11 rfl rfl <| sd 12 rfl rfl <| sd 13 rfl rfl <| sn) (.cons rfl (ro1 (by exact Eq.trans (b := 132) (lnC (n := 131) (lnA (m := 64) (n := 67) arL (lnA (m := 64) (n := 3) arL (lnC (n := 2) (lnC (n := 1) (lnC (n := 0) (lnN))))))) tZ_81.symm) (rld (alC rfl (alA (arD fun _ => rfl) (alA (arD fun _ => rfl) (alC rfl (alC rfl (alC rfl (alN))))))))) <| .nil) rfl rfl⟩
         ·
          refine D_twoQ 6 11 rfl rfl (by kernel_rfl) rfl rfl rfl rfl (fun h => by cases h) (fun h => by cases h) (v_ixAG (ov rfl) (ov rfl) tR38 rfl rfl h_x7) (w_store (ov rfl) (ov rfl) (cells_scal tS3) rfl rfl rfl (put_le (at_at (o := 65) (o' := (i.toNat * 1)) (atc (o := 64) (ata (m := 64) (o := 0) arL (at0 (hdw arL)))) (at_v1 h_x6)) rfl) (cell1_all rfl) (put_put (o := 65) (o' := (i.toNat * 1)) (atc (o := 64) (ata (m := 64) (o := 0) arL (at0 (hdw arL)))) (at_v1 h_x6) rfl (put_v1 h_x6 (x := 1)) (putc (o := 64) (puta (m := 64) (o := 0) arL (putw (Eq.trans arL (Eq.symm arL))))))) ?_ ?_
          ·
           refine D_twoQ 7 11 rfl rfl (by kernel_rfl) rfl rfl rfl rfl (fun h => by cases h) (fun h => by cases h) (v_loadS (ov rfl) rfl rfl rfl tS36 (at_get (at_at (o := 1) (o' := (i.toNat * 1)) (atc (o := 0) (at0 (hdw arL))) (at_v1 h_x7)))) (w_store (ov rfl) (ov rfl) (cells_scal tS3) rfl rfl rfl (put_le (at_at (o := 65) (o' := (i.toNat * 1)) (atc (o := 64) (ata (m := 64) (o := 0) arL (at0 (hdw arL)))) (at_v1 h_x6)) rfl) (cell1_all rfl) (put_put (o := 65) (o' := (i.toNat * 1)) (atc (o := 64) (ata (m := 64) (o := 0) arL (at0 (hdw arL)))) (at_v1 h_x6) rfl (put_v1 h_x6 (x := 1)) (putc (o := 64) (puta (m := 64) (o := 0) arL (putw (Eq.trans arL (Eq.symm arL))))))) ?_ ?_
           ·
            refine D_one 11 _ _ rfl (by kernel_rfl) rfl rfl (fun h => by cases h) (fun h => by cases h) (w_store (ov rfl) (ov rfl) (cells_scal tS3) rfl rfl rfl (put_le (at_at (o := 65) (o' := (i.toNat * 1)) (atc (o := 64) (ata (m := 64) (o := 0) arL (at0 (hdw arL)))) (at_v1 h_x6)) rfl) (cell1_all rfl) (put_put (o := 65) (o' := (i.toNat * 1)) (atc (o := 64) (ata (m := 64) (o := 0) arL (at0 (hdw arL)))) (at_v1 h_x6) rfl (put_v1 h_x6 (x := 1)) (putc (o := 64) (puta (m := 64) (o := 0) arL (putw (Eq.trans arL (Eq.symm arL))))))) ?_
            obtain ⟨x8, h_x8, h⟩ := bnd h
            refine D_q0 14 _ rfl (by kernel_rfl) rfl rfl (v_ixAG (ov rfl) (ov rfl) tR38 rfl rfl h_x8) ?_
            refine D_one 15 _ _ rfl (by kernel_rfl) rfl rfl (fun h => by cases h) (fun h => by cases h) (w_store (ov rfl) (ov rfl) (cells_scal tS36) rfl rfl rfl (put_le (at_at (o := 1) (o' := (i.toNat * 1)) (atc (o := 0) (at0 (hdw arL))) (at_v1 h_x8)) rfl) (cell1_all rfl) (put_put (o := 1) (o' := (i.toNat * 1)) (atc (o := 0) (at0 (hdw arL))) (at_v1 h_x8) rfl (put_v1 h_x8 (x := x7)) (putc (o := 0) (putw (Eq.trans arL (Eq.symm arL)))))) ?_
            refine D_done (by kernel_rfl) ?_
            exact ⟨((api_Rest.mk o4.Number (vset o4.Frame i x7) (vset o4.States i 1) o4.Sound o4.Copies o4.Conflict), (differ2 || ((!decide (x3 = 0)) && (!decide (x4 = x5))))), h, Ent.sel [some 0] (sr 0 rfl (.ptr _ _ _ rfl) <| sd 1 rfl rfl <| sd 4 rfl rfl <| sd 5 rfl rfl <| sd 8 rfl rfl <| sd 11 rfl rfl <| sd 12 rfl rfl <| sd 13 rfl rfl <| sn) (.cons rfl (ro1 (by exact Eq.trans (b := 132) (lnC (n := 131) (lnA (m := 64) (n := 67) arL (lnA (m := 64) (n := 3) arL (lnC (n := 2) (lnC (n := 1) (lnC (n := 0) (lnN))))))) tZ_81.symm) (rld (alC rfl (alA (arD fun _ => rfl) (alA (arD fun _ => rfl) (alC rfl (alC rfl (alC rfl (alN))))))))) <| .nil) rfl rfl⟩
           ·
            refine D_q0 7 _ rfl (by kernel_rfl) rfl rfl (v_loadS (ov rfl) rfl rfl rfl tS36 (at_get (at_at (o := 1) (o' := (i.toNat * 1)) (atc (o := 0) (at0 (hdw arL))) (at_v1 h_x7)))) ?_
            obtain ⟨x8, h_x8, h⟩ := bnd h
            refine D_q0 14 _ rfl (by kernel_rfl) rfl rfl (v_ixAG (ov rfl) (ov rfl) tR38 rfl rfl h_x8) ?_
            refine D_one 15 _ _ rfl (by kernel_rfl) rfl rfl (fun h => by cases h) (fun h => by cases h) (w_store (ov rfl) (ov rfl) (cells_scal tS36) rfl rfl rfl (put_le (at_at (o := 1) (o' := (i.toNat * 1)) (atc (o := 0) (at0 (hdw arL))) (at_v1 h_x8)) rfl) (cell1_all rfl) (put_put (o := 1) (o' := (i.toNat * 1)) (atc (o := 0) (at0 (hdw arL))) (at_v1 h_x8) rfl (put_v1 h_x8 (x := x7)) (putc (o := 0) (putw (Eq.trans arL (Eq.symm arL)))))) ?_
            refine D_done (by kernel_rfl) ?_
            exact ⟨((api_Rest.mk o4.Number (vset o4.Frame i x7) (vset o4.States i 1) o4.Sound o4.Copies o4.Conflict), (differ2 || ((!decide (x3 = 0)) && (!decide (x4 = x5))))), h, Ent.sel [some 0] (sr 0 rfl (.ptr _ _ _ rfl) <| sd 1 rfl rfl <| sd 4 rfl rfl <| sd 5 rfl rfl <| sd 8 rfl rfl <| sd 11 rfl rfl <| sd 12 rfl rfl <| sd 13 rfl rfl <| sn) (.cons rfl (ro1 (by exact Eq.trans (b := 132) (lnC (n := 131) (lnA (m := 64) (n := 67) arL (lnA (m := 64) (n := 3) arL (lnC (n := 2) (lnC (n := 1) (lnC (n := 0) (lnN))))))) tZ_81.symm) (rld (alC rfl (alA (arD fun _ => rfl) (alA (arD fun _ => rfl) (alC rfl (alC rfl (alC rfl (alN))))))))) <| .nil) rfl rfl⟩
          ·
           refine D_q0 6 _ rfl (by kernel_rfl) rfl rfl (v_ixAG (ov rfl) (ov rfl) tR38 rfl rfl h_x7) ?_
           refine D_q0 7 _ rfl (by kernel_rfl) rfl rfl (v_loadS (ov rfl) rfl rfl rfl tS36 (at_get (at_at (o := 1) (o' := (i.toNat * 1)) (atc (o := 0) (at0 (hdw arL))) (at_v1 h_x7)))) ?_
           obtain ⟨x8, h_x8, h⟩ := bnd h
           refine D_q0 14 _ rfl (by kernel_rfl) rfl rfl (v_ixAG (ov rfl) (ov rfl) tR38 rfl rfl h_x8) ?_
           refine D_one 15 _ _ rfl (by kernel_rfl) rfl rfl (fun h => by cases h) (fun h => by cases h) (w_store (ov rfl) (ov rfl) (cells_scal tS36) rfl rfl rfl (put_le (at_at (o := 1) (o' := (i.toNat * 1)) (atc (o := 0) (at0 (hdw arL))) (at_v1 h_x8)) rfl) (cell1_all rfl) (put_put (o := 1) (o' := (i.toNat * 1)) (atc (o := 0) (at0 (hdw arL))) (at_v1 h_x8) rfl (put_v1 h_x8 (x := x7)) (putc (o := 0) (putw (Eq.trans arL (Eq.symm arL)))))) ?_
           refine D_done (by kernel_rfl) ?_
           exact ⟨((api_Rest.mk o4.Number (vset o4.Frame i x7) (vset o4.States i 1) o4.Sound o4.Copies o4.Conflict), (differ2 || ((!decide (x3 = 0)) && (!decide (x4 = x5))))), h, Ent.sel [some 0] (sr 0 rfl (.ptr _ _ _ rfl) <| sd 1 rfl rfl <| sd 4 rfl rfl <| sd 5 rfl rfl <| sd 8 rfl rfl <| sd 11 rfl rfl <| sd 12 rfl rfl <| sd 13 rfl rfl <| sn) (.cons rfl (ro1 (by exact Eq.trans (b := 132) (lnC (n := 131) (lnA (m := 64) (n := 67) arL (lnA (m := 64) (n := 3) arL (lnC (n := 2) (lnC (n := 1) (lnC (n := 0) (lnN))))))) tZ_81.symm) (rld (alC rfl (alA (arD fun _ => rfl) (alA (arD fun _ => rfl) (alC rfl (alC rfl (alC rfl (alN))))))))) <| .nil) rfl rfl⟩
        ·
         refine D_q0 5 _ rfl (by kernel_rfl) rfl rfl (v_fieldP (ov rfl) rfl rfl tF81_1) ?_
         obtain ⟨x7, h_x7, h⟩ := bnd h
         refine D_q0 6 _ rfl (by kernel_rfl) rfl rfl (v_ixAG (ov rfl) (ov rfl) tR38 rfl rfl h_x7) ?_
         refine D_q0 7 _ rfl (by kernel_rfl) rfl rfl (v_loadS (ov rfl) rfl rfl rfl tS36 (at_get (at_at (o := 1) (o' := (i.toNat * 1)) (atc (o := 0) (at0 (hdw arL))) (at_v1 h_x7)))) ?_
         refine D_q0 13 _ rfl (by kernel_rfl) rfl rfl (v_fieldP (ov rfl) rfl rfl tF81_1) ?_
         obtain ⟨x8, h_x8, h⟩ := bnd h
         refine D_q0 14 _ rfl (by kernel_rfl) rfl rfl (v_ixAG (ov rfl) (ov rfl) tR38 rfl rfl h_x8) ?_
         refine D_one 15 _ _ rfl (by kernel_rfl) rfl rfl (fun h => by cases h) (fun h => by cases h) (w_store (ov rfl) (ov rfl) (cells_scal tS36) rfl rfl rfl (put_le (at_at (o := 1) (o' := (i.toNat * 1)) (atc (o := 0) (at0 (hdw arL))) (at_v1 h_x8)) rfl) (cell1_all rfl) (put_put (o := 1) (o' := (i.toNat * 1)) (atc (o := 0) (at0 (hdw arL))) (at_v1 h_x8) rfl (put_v1 h_x8 (x := x7)) (putc (o := 0) (putw (Eq.trans arL (Eq.symm arL)))))) ?_
         refine D_done (by kernel_rfl) ?_
         exact ⟨((api_Rest.mk o4.Number (vset o4.Frame i x7) (vset o4.States i 1) o4.Sound o4.Copies o4.Conflict), (differ2 || ((!decide (x3 = 0)) && (!decide (x4 = x5))))), h, Ent.sel [some 0] (sr 0 rfl (.ptr _ _ _ rfl) <| sd 1 rfl rfl <| sd 4 rfl rfl <| sd 5 rfl rfl <| sd 8 rfl rfl <| sd 11 rfl rfl <| sd 12 rfl rfl <| sd 13 rfl rfl <| sn) (.cons rfl (ro1 (by exact Eq.trans (b := 132) (lnC (n := 131) (lnA (m := 64) (n := 67) arL (lnA (m := 64) (n := 3) arL (lnC (n := 2) (lnC (n := 1) (lnC (n := 0) (lnN))))))) tZ_81.symm) (rld (alC rfl (alA (arD fun _ => rfl) (alA (arD fun _ => rfl) (alC rfl (alC rfl (alC rfl (alN))))))))) <| .nil) rfl rfl⟩
        ·
         refine D_twoQ 5 11 rfl rfl (by kernel_rfl) rfl rfl rfl rfl (fun h => by cases h) (fun h => by cases h) (v_fieldP (ov rfl) rfl rfl tF81_1) (w_store (ov rfl) (ov rfl) (cells_scal tS3) rfl rfl rfl (put_le (at_at (o := 65) (o' := (i.toNat * 1)) (atc (o := 64) (ata (m := 64) (o := 0) arL (at0 (hdw arL)))) (at_v1 h_x6)) rfl) (cell1_all rfl) (put_put (o := 65) (o' := (i.toNat * 1)) (atc (o := 64) (ata (m := 64) (o := 0) arL (at0 (hdw arL)))) (at_v1 h_x6) rfl (put_v1 h_x6 (x := 1)) (putc (o := 64) (puta (m := 64) (o := 0) arL (putw (Eq.trans arL (Eq.symm arL))))))) ?_ ?_
         ·
          obtain ⟨x7, h_x7, h⟩ := bnd h
          refine D_twoQ 6 11 rfl rfl (by kernel_rfl) rfl rfl rfl rfl (fun h => by cases h) (fun h => by cases h) (v_ixAG (ov rfl) (ov rfl) tR38 rfl rfl h_x7) (w_store (ov rfl) (ov rfl) (cells_scal tS3) rfl rfl rfl (put_le (at_at (o := 65) (o' := (i.toNat * 1)) (atc (o := 64) (ata (m := 64) (o := 0) arL (at0 (hdw arL)))) (at_v1 h_x6)) rfl) (cell1_all rfl) (put_put (o := 65) (o' := (i.toNat * 1)) (atc (o := 64) (ata (m := 64) (o := 0) arL (at0 (hdw arL)))) (at_v1 h_x6) rfl (put_v1 h_x6 (x := 1)) (putc (o := 64) (puta (m := 64) (o := 0) arL (putw (Eq.trans arL (Eq.symm arL))))))) ?_ ?_
          ·
           refine D_twoQ 7 11 rfl rfl (by kernel_rfl) rfl rfl rfl rfl (fun h => by cases h) (fun h => by cases h) (v_loadS (ov rfl) rfl rfl rfl tS36 (at_get (at_at (o := 1) (o' := (i.toNat * 1)) (atc (o := 0) (at0 (hdw arL))) (at_v1 h_x7)))) (w_store (ov rfl) (ov rfl) (cells_scal tS3) rfl rfl rfl (put_le (at_at (o := 65) (o' := (i.toNat * 1)) (atc (o := 64) (ata (m := 64) (o := 0) arL (at0 (hdw arL)))) (at_v1 h_x6)) rfl) (cell1_all rfl) (put_put (o := 65) (o' := (i.toNat * 1)) (atc (o := 64) (ata (m := 64) (o := 0) arL (at0 (hdw arL)))) (at_v1 h_x6) rfl (put_v1 h_x6 (x := 1)) (putc (o := 64) (puta (m := 64) (o := 0) arL (putw (Eq.trans arL (Eq.symm arL))))))) ?_ ?_
           ·
            refine D_one 11 _ _ rfl (by kernel_rfl) rfl rfl (fun h => by cases h) (fun h => by cases h) (w_store (ov rfl) (ov rfl) (cells_scal tS3) rfl rfl rfl (put_le (at_at (o := 65) (o' := (i.toNat * 1)) (atc (o := 64) (ata (m := 64) (o := 0) arL (at0 (hdw arL)))) (at_v1 h_x6)) rfl) (cell1_all rfl) (put_put (o := 65) (o' := (i.toNat * 1)) (atc (o := 64) (ata (m := 64) (o := 0) arL (at0 (hdw arL)))) (at_v1 h_x6) rfl (put_v1 h_x6 (x := 1)) (putc (o := 64) (puta (m := 64) (o := 0) arL (putw (Eq.trans arL (Eq.symm arL))))))) ?_
            obtain ⟨x8, h_x8, h⟩ := bnd h
            refine D_q0 14 _ rfl (by kernel_rfl) rfl rfl (v_ixAG (ov rfl) (ov rfl) tR38 rfl rfl h_x8) ?_
            refine D_one 15 _ _ rfl (by kernel_rfl) rfl rfl (fun h => by cases h) (fun h => by cases h) (w_store (ov rfl) (ov rfl) (cells_scal tS36) rfl rfl rfl (put_le (at_at (o := 1) (o' := (i.toNat * 1)) (atc (o := 0) (at0 (hdw arL))) (at_v1 h_x8)) rfl) (cell1_all rfl) (put_put (o := 1) (o' := (i.toNat * 1)) (atc (o := 0) (at0 (hdw arL))) (at_v1 h_x8) rfl (put_v1 h_x8 (x := x7)) (putc (o := 0) (putw (Eq.trans arL (Eq.symm arL)))))) ?_
            refine D_done (by kernel_rfl) ?_
            exact ⟨((api_Rest.mk o4.Number (vset o4.Frame i x7) (vset o4.States i 1) o4.Sound o4.Copies o4.Conflict), (differ2 || ((!decide (x3 = 0)) && (!decide (x4 = x5))))), h, Ent.sel [some 0] (sr 0 rfl (.ptr _ _ _ rfl) <| sd 1 rfl rfl <| sd 4 rfl rfl <| sd 5 rfl rfl <| sd 8 rfl rfl <| sd 11 rfl rfl <| sd 12 rfl rfl <| sd 13 rfl rfl <| sn) (.cons rfl (ro1 (by exact Eq.trans (b := 132) (lnC (n := 131) (lnA (m := 64) (n := 67) arL (lnA (m := 64) (n := 3) arL (lnC (n := 2) (lnC (n := 1) (lnC (n := 0) (lnN))))))) tZ_81.symm) (rld (alC rfl (alA (arD fun _ => rfl) (alA (arD fun _ => rfl) (alC rfl (alC rfl (alC rfl (alN))))))))) <| .nil) rfl rfl⟩
           ·
            refine D_q0 7 _ rfl (by kernel_rfl) rfl rfl (v_loadS (ov rfl) rfl rfl rfl tS36 (at_get (at_at (o := 1) (o' := (i.toNat * 1)) (atc (o := 0) (at0 (hdw arL))) (at_v1 h_x7)))) ?_
            obtain ⟨x8, h_x8, h⟩ := bnd h
            refine D_q0 14 _ rfl (by kernel_rfl) rfl rfl (v_ixAG (ov rfl) (ov rfl) tR38 rfl rfl h_x8) ?_
            refine D_one 15 _ _ rfl (by kernel_rfl) rfl rfl (fun h => by cases h) (fun h => by cases h) (w_store (ov rfl) (ov rfl) (cells_scal tS36) rfl rfl rfl (put_le (at_at (o := 1) (o' := (i.toNat * 1)) (atc (o := 0) (at0 (hdw arL))) (at_v1 h_x8)) rfl) (cell1_all rfl) (put_put (o := 1) (o' := (i.toNat * 1)) (atc (o := 0) (at0 (hdw arL))) (at_v1 h_x8) rfl (put_v1 h_x8 (x := x7)) (putc (o := 0) (putw (Eq.trans arL (Eq.symm arL)))))) ?_
            refine D_done (by kernel_rfl) ?_
            exact ⟨((api_Rest.mk o4.Number (vset o4.Frame i x7) (vset o4.States i 1) o4.Sound o4.Copies o4.Conflict), (differ2 || ((!decide (x3 = 0)) && (!decide (x4 = x5))))), h, Ent.sel [some 0] (sr 0 rfl (.ptr _ _ _ rfl) <| sd 1 rfl rfl <| sd 4 rfl rfl <| sd 5 rfl rfl <| sd 8 rfl rfl <| sd 11 rfl rfl <| sd 12 rfl rfl <| sd 13 rfl rfl <| sn) (.cons rfl (ro1 (by exact Eq.trans (b := 132) (lnC (n := 131) (lnA (m := 64) (n := 67) arL (lnA (m := 64) (n := 3) arL (lnC (n := 2) (lnC (n := 1) (lnC (n := 0) (lnN))))))) tZ_81.symm) (rld (alC rfl (alA (arD fun _ => rfl) (alA (arD fun _ => rfl) (alC rfl (alC rfl (alC rfl (alN))))))))) <| .nil) rfl rfl⟩
          ·
           refine D_q0 6 _ rfl (by kernel_rfl) rfl rfl (v_ixAG (ov rfl) (ov rfl) tR38 rfl rfl h_x7) ?_
           refine D_q0 7 _ rfl (by kernel_rfl) rfl rfl (v_loadS (ov rfl) rfl rfl rfl tS36 (at_get (at_at (o := 1) (o' := (i.toNat * 1)) (atc (o := 0) (at0 (hdw arL))) (at_v1 h_x7)))) ?_
           obtain ⟨x8, h_x8, h⟩ := bnd h
           refine D_q0 14 _ rfl (by kernel_rfl) rfl rfl (v_ixAG (ov rfl) (ov rfl) tR38 rfl rfl h_x8) ?_
           refine D_one 15 _ _ rfl (by kernel_rfl) rfl rfl (fun h => by cases h) (fun h => by cases h) (w_store (ov rfl) (ov rfl) (cells_scal tS36) rfl rfl rfl (put_le (at_at (o := 1) (o' := (i.toNat * 1)) (atc (o := 0) (at0 (hdw arL))) (at_v1 h_x8)) rfl) (cell1_all rfl) (put_put (o := 1) (o' := (i.toNat * 1)) (atc (o := 0) (at0 (hdw arL))) (at_v1 h_x8) rfl (put_v1 h_x8 (x := x7)) (putc (o := 0) (putw (Eq.trans arL (Eq.symm arL)))))) ?_
           refine D_done (by kernel_rfl) ?_
           exact ⟨((api_Rest.mk o4.Number (vset o4.Frame i x7) (vset o4.States i 1) o4.Sound o4.Copies o4.Conflict), (differ2 || ((!decide (x3 = 0)) && (!decide (x4 = x5))))), h, Ent.sel [some 0] (sr 0 rfl (.ptr _ _ _ rfl) <| sd 1 rfl rfl <| sd 4 rfl rfl <| sd 5 rfl rfl <| sd 8 rfl rfl <| sd 11 rfl rfl <| sd 12 rfl rfl <| sd 13 rfl rfl <| sn) (.cons rfl (ro1 (by exact Eq.trans (b := 132) (lnC (n := 131) (lnA (m := 64) (n := 67) arL (lnA (m := 64) (n := 3) arL (lnC (n := 2) (lnC (n := 1) (lnC (n := 0) (lnN))))))) tZ_81.symm) (rld (alC rfl (alA (arD fun _ => rfl) (alA (arD fun _ => rfl) (alC rfl (alC rfl (alC rfl (alN))))))))) <| .nil) rfl rfl⟩
         ·
          refine D_q0 5 _ rfl (by kernel_rfl) rfl rfl (v_fieldP (ov rfl) rfl rfl tF81_1) ?_
          obtain ⟨x7, h_x7, h⟩ := bnd h
          refine D_q0 6 _ rfl (by kernel_rfl) rfl rfl (v_ixAG (ov rfl) (ov rfl) tR38 rfl rfl h_x7) ?_
          refine D_q0 7 _ rfl (by kernel_rfl) rfl rfl (v_loadS (ov rfl) rfl rfl rfl tS36 (at_get (at_at (o := 1) (o' := (i.toNat * 1)) (atc (o := 0) (at0 (hdw arL))) (at_v1 h_x7)))) ?_
          obtain ⟨x8, h_x8, h⟩ := bnd h
          refine D_q0 14 _ rfl (by kernel_rfl) rfl rfl (v_ixAG (ov rfl) (ov rfl) tR38 rfl rfl h_x8) ?_
          refine D_one 15 _ _ rfl (by kernel_rfl) rfl rfl (fun h => by cases h) (fun h => by cases h) (w_store (ov rfl) (ov rfl) (cells_scal tS36) rfl rfl rfl (put_le (at_at (o := 1) (o' := (i.toNat * 1)) (atc (o := 0) (at0 (hdw arL))) (at_v1 h_x8)) rfl) (cell1_all rfl) (put_put (o := 1) (o' := (i.toNat * 1)) (atc (o := 0) (at0 (hdw arL))) (at_v1 h_x8) rfl (put_v1 h_x8 (x := x7)) (putc (o := 0) (putw (Eq.trans arL (Eq.symm arL)))))) ?_
          refine D_done (by kernel_rfl) ?_
          exact ⟨((api_Rest.mk o4.Number (vset o4.Frame i x7) (vset o4.States i 1) o4.Sound o4.Copies o4.Conflict), (differ2 || ((!decide (x3 = 0)) && (!decide (x4 = x5))))), h, Ent.sel [some 0] (sr 0 rfl (.ptr _ _ _ rfl) <| sd 1 rfl rfl <| sd 4 rfl rfl <| sd 5 rfl rfl <| sd 8 rfl rfl <| sd 11 rfl rfl <| sd 12 rfl rfl <| sd 13 rfl rfl <| sn) (.cons rfl (ro1 (by exact Eq.trans (b := 132) (lnC (n := 131) (lnA (m := 64) (n := 67) arL (lnA (m := 64) (n := 3) arL (lnC (n := 2) (lnC (n := 1) (lnC (n := 0) (lnN))))))) tZ_81.symm) (rld (alC rfl (alA (arD fun _ => rfl) (alA (arD fun _ => rfl) (alC rfl (alC rfl (alC rfl (alN))))))))) <| .nil) rfl rfl⟩
     ·
      obtain ⟨o5, differ3⟩ := j
      replace h := t2i h
      refine t2T ?_
      refine T_reg ?_
      refine R_q _ rfl (v_add (ov rfl) (ov rfl) rfl) ?_
      refine R_q _ rfl (v_move (ov rfl)) ?_
      refine R_nil ?_
      exact ⟨(o5, differ3, (i64 (i2 + 1))), h, Ent.sel [some 0] (sr 0 rfl (.ptr _ _ _ rfl) <| sd 1 rfl rfl <| sd 4 rfl rfl <| sd 5 rfl rfl <| sd 8 rfl rfl <| sd 11 rfl rfl <| sd 12 rfl rfl <| sd 13 rfl rfl <| sn) (.cons rfl (ro1 (by exact Eq.trans (b := 132) (lnC (n := 131) (lnA (m := 64) (n := 67) arL (lnA (m := 64) (n := 3) arL (lnC (n := 2) (lnC (n := 1) (lnC (n := 0) (lnN))))))) tZ_81.symm) (rld (alC rfl (alA (arD fun _ => rfl) (alA (arD fun _ => rfl) (alC rfl (alC rfl (alC rfl (alN))))))))) <| .nil) rfl rfl⟩
    ·
     refine T_exit ?_
     rw [lx h] at ho2
     replace h := ho2
     exact ⟨(o4, differ2), h, Ent.sel [some 0] (sr 0 rfl (.ptr _ _ _ rfl) <| sd 1 rfl rfl <| sd 4 rfl rfl <| sd 5 rfl rfl <| sd 8 rfl rfl <| sn) (.cons rfl (ro1 (by exact Eq.trans (b := 132) (lnC (n := 131) (lnA (m := 64) (n := 67) arL (lnA (m := 64) (n := 3) arL (lnC (n := 2) (lnC (n := 1) (lnC (n := 0) (lnN))))))) tZ_81.symm) (rld (alC rfl (alA (arD fun _ => rfl) (alA (arD fun _ => rfl) (alC rfl (alC rfl (alC rfl (alN))))))))) <| .nil) rfl rfl⟩
   ·
    obtain ⟨o3, differ⟩ := j
    replace h := t2i h
    refine t2T ?_
    refine T_seq (T_reg ?_)
    refine R_q _ rfl (v_move (ov rfl)) ?_
    refine R_nil ?_
    refine T_keep (kc 0 rfl <| kc 1 rfl <| kc 4 rfl <| kc 8 rfl <| kc 60 rfl <| kn) rfl ?_
    refine T_if h rfl (fun b60 h => ?_) (fun b60 h => ?_)
    ·
     refine T_keep (kc 0 rfl <| kc 1 rfl <| kc 4 rfl <| kc 8 rfl <| kn) rfl ?_
     refine T_draw (cw := md0) (by kernel_rfl) ?_
     refine D_q0 0 _ rfl (by kernel_rfl) rfl rfl (v_move (ov rfl)) ?_
     refine D_q0 1 _ rfl (by kernel_rfl) rfl rfl (v_move (ov rfl)) ?_
     refine D_q0 4 _ rfl (by kernel_rfl) rfl rfl (v_nilCheckP (ov rfl) rfl rfl) ?_
     refine D_q0 5 _ rfl (by kernel_rfl) rfl rfl (v_fieldP (ov rfl) rfl rfl tF81_2) ?_
     obtain ⟨x9, h_x9, h⟩ := bnd h
     refine D_q0 6 _ rfl (by kernel_rfl) rfl rfl (v_ixAG (ov rfl) (ov rfl) tR79 rfl rfl h_x9) ?_
     refine D_free 2 _ rfl (by kernel_rfl) rfl rfl (fun hp' => v_move (ov rfl)) ?_
     refine D_free 3 _ rfl (by kernel_rfl) rfl rfl (fun hp' => v_move (ov rfl)) ?_
     refine D_twoQ 8 7 rfl rfl (by kernel_rfl) rfl rfl rfl rfl (fun h => by cases h) (fun h => by cases h) (v_nilCheckP (ov rfl) rfl rfl) (w_store (ov rfl) (ov rfl) (cells_scal tS3) rfl rfl rfl (put_le (at_at (o := 65) (o' := (i.toNat * 1)) (atc (o := 64) (ata (m := 64) (o := 0) arL (at0 (hdw arL)))) (at_v1 h_x9)) rfl) (cell1_all rfl) (put_put (o := 65) (o' := (i.toNat * 1)) (atc (o := 64) (ata (m := 64) (o := 0) arL (at0 (hdw arL)))) (at_v1 h_x9) rfl (put_v1 h_x9 (x := 0)) (putc (o := 64) (puta (m := 64) (o := 0) arL (putw (Eq.trans arL (Eq.symm arL))))))) ?_ ?_
     ·
      refine D_twoQ 9 7 rfl rfl (by kernel_rfl) rfl rfl rfl rfl (fun h => by cases h) (fun h => by cases h) (v_fieldP (ov rfl) rfl rfl tF81_1) (w_store (ov rfl) (ov rfl) (cells_scal tS3) rfl rfl rfl (put_le (at_at (o := 65) (o' := (i.toNat * 1)) (atc (o := 64) (ata (m := 64) (o := 0) arL (at0 (hdw arL)))) (at_v1 h_x9)) rfl) (cell1_all rfl) (put_put (o := 65) (o' := (i.toNat * 1)) (atc (o := 64) (ata (m := 64) (o := 0) arL (at0 (hdw arL)))) (at_v1 h_x9) rfl (put_v1 h_x9 (x := 0)) (putc (o := 64) (puta (m := 64) (o := 0) arL (putw (Eq.trans arL (Eq.symm arL))))))) ?_ ?_
      ·
       refine D_one 7 _ _ rfl (by kernel_rfl) rfl rfl (fun h => by cases h) (fun h => by cases h) (w_store (ov rfl) (ov rfl) (cells_scal tS3) rfl rfl rfl (put_le (at_at (o := 65) (o' := (i.toNat * 1)) (atc (o := 64) (ata (m := 64) (o := 0) arL (at0 (hdw arL)))) (at_v1 h_x9)) rfl) (cell1_all rfl) (put_put (o := 65) (o' := (i.toNat * 1)) (atc (o := 64) (ata (m := 64) (o := 0) arL (at0 (hdw arL)))) (at_v1 h_x9) rfl (put_v1 h_x9 (x := 0)) (putc (o := 64) (puta (m := 64) (o := 0) arL (putw (Eq.trans arL (Eq.symm arL))))))) ?_
       obtain ⟨x10, h_x10, h⟩ := bnd h
       refine D_q0 10 _ rfl (by kernel_rfl) rfl rfl (v_ixAG (ov rfl) (ov rfl) tR38 rfl rfl h_x10) ?_
       refine D_one 11 _ _ rfl (by kernel_rfl) rfl rfl (fun h => by cases h) (fun h => by cases h) (w_store (ov rfl) (ov rfl) (cells_scal tS36) rfl rfl rfl (put_le (at_at (o := 1) (o' := (i.toNat * 1)) (atc (o := 0) (at0 (hdw arL))) (at_v1 h_x10)) rfl) (cell1_all rfl) (put_put (o := 1) (o' := (i.toNat * 1)) (atc (o := 0) (at0 (hdw arL))) (at_v1 h_x10) rfl (put_v1 h_x10 (x := 0)) (putc (o := 0) (putw (Eq.trans arL (Eq.symm arL)))))) ?_
       refine D_done (by kernel_rfl) ?_
       exact ⟨(api_Rest.mk o3.Number (vset o3.Frame i 0) (vset o3.States i 0) o3.Sound o3.Copies o3.Conflict), h, Ent.sel [some 0] (sr 0 rfl (.ptr _ _ _ rfl) <| sd 1 rfl rfl <| sd 8 rfl rfl <| sn) (.cons rfl (ro1 (by exact Eq.trans (b := 132) (lnC (n := 131) (lnA (m := 64) (n := 67) arL (lnA (m := 64) (n := 3) arL (lnC (n := 2) (lnC (n := 1) (lnC (n := 0) (lnN))))))) tZ_81.symm) (rld (alC rfl (alA (arD fun _ => rfl) (alA (arD fun _ => rfl) (alC rfl (alC rfl (alC rfl (alN))))))))) <| .nil) rfl rfl⟩
      ·
       refine D_q0 9 _ rfl (by kernel_rfl) rfl rfl (v_fieldP (ov rfl) rfl rfl tF81_1) ?_
       obtain ⟨x10, h_x10, h⟩ := bnd h
       refine D_q0 10 _ rfl (by kernel_rfl) rfl rfl (v_ixAG (ov rfl) (ov rfl) tR38 rfl rfl h_x10) ?_
       refine D_one 11 _ _ rfl (by kernel_rfl) rfl rfl (fun h => by cases h) (fun h => by cases h) (w_store (ov rfl) (ov rfl) (cells_scal tS36) rfl rfl rfl (put_le (at_at (o := 1) (o' := (i.toNat * 1)) (atc (o := 0) (at0 (hdw arL))) (at_v1 h_x10)) rfl) (cell1_all rfl) (put_put (o := 1) (o' := (i.toNat * 1)) (atc (o := 0) (at0 (hdw arL))) (at_v1 h_x10) rfl (put_v1 h_x10 (x := 0)) (putc (o := 0) (putw (Eq.trans arL (Eq.symm arL)))))) ?_
       refine D_done (by kernel_rfl) ?_
       exact ⟨(api_Rest.mk o3.Number (vset o3.Frame i 0) (vset o3.States i 0) o3.Sound o3.Copies o3.Conflict), h, Ent.sel [some 0] (sr 0 rfl (.ptr _ _ _ rfl) <| sd 1 rfl rfl <| sd 8 rfl rfl <| sn) (.cons rfl (ro1 (by exact Eq.trans (b := 132) (lnC (n := 131) (lnA (m := 64) (n := 67) arL (lnA (m := 64) (n := 3) arL (lnC (n := 2) (lnC (n := 1) (lnC (n := 0) (lnN))))))) tZ_81.symm) (rld (alC rfl (alA (arD fun _ => rfl) (alA (arD fun _ => rfl) (alC rfl (alC rfl (alC rfl (alN))))))))) <| .nil) rfl rfl⟩
     ·
      refine D_q0 8 _ rfl (by kernel_rfl) rfl rfl (v_nilCheckP (ov rfl) rfl rfl) ?_
      refine D_q0 9 _ rfl (by kernel_rfl) rfl rfl (v_fieldP (ov rfl) rfl rfl tF81_1) ?_
      obtain ⟨x10, h_x10, h⟩ := bnd h
      refine D_q0 10 _ rfl (by kernel_rfl) rfl rfl (v_ixAG (ov rfl) (ov rfl) tR38 rfl rfl h_x10) ?_
      refine D_one 11 _ _ rfl (by kernel_rfl) rfl rfl (fun h => by cases h) (fun h => by cases h) (w_store (ov rfl) (ov rfl) (cells_scal tS36) rfl rfl rfl (put_le (at_at (o := 1) (o' := (i.toNat * 1)) (atc (o := 0) (at0 (hdw arL))) (at_v1 h_x10)) rfl) (cell1_all rfl) (put_put (o := 1) (o' := (i.toNat * 1)) (atc (o := 0) (at0 (hdw arL))) (at_v1 h_x10) rfl (put_v1 h_x10 (x := 0)) (putc (o := 0) (putw (Eq.trans arL (Eq.symm arL)))))) ?_
      refine D_done (by kernel_rfl) ?_
      exact ⟨(api_Rest.mk o3.Number (vset o3.Frame i 0) (vset o3.States i 0) o3.Sound o3.Copies o3.Conflict), h, Ent.sel [some 0] (sr 0 rfl (.ptr _ _ _ rfl) <| sd 1 rfl rfl <| sd 8 rfl rfl <| sn) (.cons rfl (ro1 (by exact Eq.trans (b := 132) (lnC (n := 131) (lnA (m := 64) (n := 67) arL (lnA (m := 64) (n := 3) arL (lnC (n := 2) (lnC (n := 1) (lnC (n := 0) (lnN))))))) tZ_81.symm) (rld (alC rfl (alA (arD fun _ => rfl) (alA (arD fun _ => rfl) (alC rfl (alC rfl (alC rfl (alN))))))))) <| .nil) rfl rfl⟩
    ·
     refine T_skip ?_
     exact ⟨o3, h, Ent.sel [some 0] (sr 0 rfl (.ptr _ _ _ rfl) <| sd 1 rfl rfl <| sd 8 rfl rfl <| sn) (.cons rfl (ro1 (by exact Eq.trans (b := 132) (lnC (n := 131) (lnA (m := 64) (n := 67) arL (lnA (m := 64) (n := 3) arL (lnC (n := 2) (lnC (n := 1) (lnC (n := 0) (lnN))))))) tZ_81.symm) (rld (alC rfl (alA (arD fun _ => rfl) (alA (arD fun _ => rfl) (alC rfl (alC rfl (alC rfl (alN))))))))) <| .nil) rfl rfl⟩
  ·
   obtain ⟨o2, rfl⟩ : ∃ x, x = j := ⟨_, rfl⟩
   replace h := t1i h
   refine t1T ?_
   refine T_reg ?_
   refine R_q _ rfl (v_add (ov rfl) (ov rfl) rfl) ?_
   refine R_q _ rfl (v_move (ov rfl)) ?_
   refine R_nil ?_
   exact ⟨(o2, (i64 (i + 1))), h, Ent.sel [some 0] (sr 0 rfl (.ptr _ _ _ rfl) <| sd 1 rfl rfl <| sd 8 rfl rfl <| sn) (.cons rfl (ro1 (by exact Eq.trans (b := 132) (lnC (n := 131) (lnA (m := 64) (n := 67) arL (lnA (m := 64) (n := 3) arL (lnC (n := 2) (lnC (n := 1) (lnC (n := 0) (lnN))))))) tZ_81.symm) (rld (alC rfl (alA (arD fun _ => rfl) (alA (arD fun _ => rfl) (alC rfl (alC rfl (alC rfl (alN))))))))) <| .nil) rfl rfl⟩
 ·
  refine T_exit ?_
  rw [lx h] at ho1
  replace h := ho1
  obtain rfl := rt (v := o) h
  exact retgn [some 0] rfl (.nil) (.cons rfl (ro1 (by exact Eq.trans (b := 132) (lnC (n := 131) (lnA (m := 64) (n := 67) arL (lnA (m := 64) (n := 3) arL (lnC (n := 2) (lnC (n := 1) (lnC (n := 0) (lnN))))))) tZ_81.symm) (rld (alC rfl (alA (arD fun _ => rfl) (alA (arD fun _ => rfl) (alC rfl (alC rfl (alC rfl (alN))))))))) <| .nil) rfl rfl (rTup (rln))

theorem ok_salvage_some_1 {s : Int} {c0 : Int} {c1 : Int} {r : Bool} (h : salvage_some_1 s c0 c1 = some r) :
  CSpec Tryd.prog gl0 150 [.int .i64 s, .rp [.int .i64 c0] 0, .rp [.int .i64 c1] 0] (.bool r) := by
 unfold salvage_some_1 at h
 replace h := bnd0 h
 refine spec_of (by kernel_rfl) Tryd.func150 rfl rfl ?_
 intro w0 A
 refine T_seq (T_reg ?_)
 refine R_q _ rfl (v_assign (ov rfl)) ?_
 refine R_nil ?_
 refine T_seq (T_reg ?_)
 refine R_q _ rfl (v_move (ov rfl)) ?_
 refine R_q _ rfl (v_loadS_r (ov rfl) tS3 rfl) ?_
 refine R_q _ rfl (v_eql (ov rfl) (ov rfl)) ?_
 refine R_q _ rfl (v_move (ov rfl)) ?_
 refine R_q _ rfl (.guarded ((decide (s = c0)) == false) rfl rfl rfl rfl fun h => v_move (ov rfl)) ?_
 refine R_q _ rfl (.guarded ((decide (s = c0)) == false) rfl rfl rfl rfl fun h => v_loadS_r (ov rfl) tS3 rfl) ?_
 refine R_q _ rfl (.guarded ((decide (s = c0)) == false) rfl rfl rfl rfl fun h => v_eql (ow rfl h) (ow rfl h)) ?_
 refine R_q _ rfl (v_or (ov rfl) (fun hp => ow rfl (gF hp))) ?_
 refine R_q _ rfl (v_assign (ov rfl)) ?_
 refine R_nil ?_
 obtain rfl := rt (v := ((decide (s = c0)) || (decide (s = c1)))) h
 refine T_ret (retq ?_ (.one (.tmp rfl (Dat.view (.b rfl)))))
 rfl

theorem ok_salvage_some {r_ : api_Rest} {a : Int} {b : Int} {r : Bool} (h : salvage_some r_ a b = some r) :
  CSpec Tryd.prog gl0 118 [.agg ((.int .i64 r_.Number) :: ((List.map C36 r_.Frame.toList) ++ (((List.map C3 r_.States.toList) ++ ((.bool r_.Sound) :: (.int .i64 r_.Copies) :: (.bool r_.Conflict) :: []))))), .int .i64 a, .int .i64 b] (.bool r) := by
 unfold salvage_some at h
 replace h := bnd0 h
 refine spec_of (by kernel_rfl) Tryd.func118 rfl rfl ?_
 intro w0 A
 refine T_seq (T_reg ?_)
 refine R_q _ rfl (v_boxD (cva (ov rfl)) (lnC (n := 131) (lnA (m := 64) (n := 67) arL (lnA (m := 64) (n := 3) arL (lnC (n := 2) (lnC (n := 1) (lnC (n := 0) (lnN))))))) tZ_81 (alC rfl (alA (arD fun _ => rfl) (alA (arD fun _ => rfl) (alC rfl (alC rfl (alC rfl (alN)))))))) ?_
 refine R_q _ rfl (v_boxD (cvs (ov rfl) (cell1_b rfl)) rfl tZ_3 rfl) ?_
 refine R_q _ rfl (v_boxD (cvs (ov rfl) (cell1_b rfl)) rfl tZ_3 rfl) ?_
 refine R_q _ rfl (v_assign (ov rfl)) ?_
 refine R_nil ?_
 refine T_keep (kc 3 rfl <| kc 4 rfl <| kc 5 rfl <| kc 6 rfl <| kn) rfl ?_
 refine T_seq (T_reg ?_)
 refine R_q _ rfl (v_fieldR (ov rfl) tF81_2) ?_
 obtain ⟨l, h_l, h⟩ := bnd h
 refine R_q _ rfl (v_slR (f := C3) (ov rfl) tR79 tZ_3 (atc (o := 64) (ata (m := 64) (o := 0) arL (at0 (hdw arL)))) rfl on on h_l) ?_
 refine R_q _ rfl (v_makeFunc (.cons (ov rfl) <| .cons (ov rfl) <| .nil)) ?_
 obtain ⟨y, h_y, h⟩ := bnd h
 refine R_q _ rfl (v_call (ok_slices_ContainsFunc_int_int rfl (fun z0 _ hz => ok_salvage_some_1 hz) h_y) (.cons (ov rfl) (.b rfl) <| .cons (ov rfl) (.fnC (.cons (.b rfl) <| .cons (.b rfl) <| .nil)) <| .nil)) ?_
 refine R_q _ rfl (v_assign (ov rfl)) ?_
 refine R_nil ?_
 obtain rfl := rt (v := y) h
 refine T_ret (retq ?_ (.one (.tmp rfl (Dat.view (.b rfl)))))
 rfl

theorem ok_salvage_soundAs {f : Vector Int 64} {number : Int} {r : Bool} (h : salvage_soundAs f number = some r) :
  CSpec Tryd.prog gl0 93 [.agg (List.map C36 f.toList), .int .i64 number] (.bool r) := by
 unfold salvage_soundAs at h
 replace h := bnd0 h
 refine spec_of (by kernel_rfl) Tryd.func93 rfl rfl ?_
 intro w0 A
 refine T_seq (T_reg ?_)
 refine R_q _ rfl (v_boxD (cva (ov rfl)) arL tZ_38 (arD fun _ => rfl)) ?_
 refine R_q _ rfl (v_assign (ov rfl)) ?_
 refine R_nil ?_
 refine T_keep (kc 1 rfl <| kc 2 rfl <| kn) rfl ?_
 refine T_seq (T_reg ?_)
 refine R_q _ rfl (v_loadA_r (ov rfl) tA38 (at_sub (at_all arL)) arL) ?_
 obtain ⟨y, h_y, h⟩ := bnd h
 refine R_q _ rfl (v_call (ok_frame_Number h_y) (.cons (ov rfl) (.aggB (arD fun _ => rfl)) <| .nil)) ?_
 refine R_q _ rfl (v_move (ov rfl)) ?_
 refine R_q _ rfl (v_extract (ov rfl) rfl) ?_
 refine R_q _ rfl (v_extract (ov rfl) rfl) ?_
 refine R_q _ rfl (v_assign (ov rfl)) ?_
 refine R_q _ rfl (v_assign (ov rfl)) ?_
 refine R_nil ?_
 refine T_keep (kc 1 rfl <| kc 2 rfl <| kc 5 rfl <| kn) rfl ?_
 refine T_seq (T_reg ?_)
 refine R_q _ rfl (v_loadA_r (ov rfl) tA38 (at_sub (at_all arL)) arL) ?_
 obtain ⟨y2, h_y2, h⟩ := bnd h
 refine R_q _ rfl (v_call (ok_frame_Sound h_y2) (.cons (ov rfl) (.aggB (arD fun _ => rfl)) <| .nil)) ?_
 refine R_q _ rfl (v_move (ov rfl)) ?_
 refine R_q _ rfl (.guarded (y2 == true) rfl rfl rfl rfl fun h => v_move (ov rfl)) ?_
 refine R_q _ rfl (.guarded (y2 == true) rfl rfl rfl rfl fun h => v_move (ov rfl)) ?_
 refine R_q _ rfl (.guarded (y2 == true) rfl rfl rfl rfl fun h => v_eql (ow rfl h) (ow rfl h)) ?_
 refine R_q _ rfl (v_and (ov rfl) (fun hp => ow rfl (gT hp))) ?_
 refine R_q _ rfl (v_assign (ov rfl)) ?_
 refine R_nil ?_
 obtain rfl := rt (v := (y2 && (decide (y.1 = number)))) h
 refine T_ret (retq ?_ (.one (.tmp rfl (Dat.view (.b rfl)))))
 rfl

theorem ok_salvage_merge {l : List api_Rest} {r : api_Rest} (h : salvage_merge l = some r) :
  CSpec Tryd.prog gl0 91 [.sl 81 (List.map R81 l)] (.agg ((.int .i64 r.Number) :: ((List.map C36 r.Frame.toList) ++ (((List.map C3 r.States.toList) ++ ((.bool r.Sound) :: (.int .i64 r.Copies) :: (.bool r.Conflict) :: [])))))) := by
 unfold salvage_merge at h
 replace h := bnd0 h
 refine spec_of (by kernel_rfl) Tryd.func91 rfl rfl ?_
 intro w0 A
 refine T_seq (T_reg ?_)
 refine R_w _ _ rfl (w_alloc (row := (.int .i64 0) :: ((List.map C36 (Vector.replicate 64 0).toList) ++ (((List.map C3 (Vector.replicate 64 0).toList) ++ ((.bool false) :: (.int .i64 0) :: (.bool false) :: []))))) 0 rfl tZ81 (by kernel_rfl) (by exact Eq.symm (Eq.trans (b := 132) (lnC (n := 131) (lnA (m := 64) (n := 67) arL (lnA (m := 64) (n := 3) arL (lnC (n := 2) (lnC (n := 1) (lnC (n := 0) (lnN))))))) tZ_81.symm))) ?_
 refine R_nil ?_
 refine T_seq (T_reg ?_)
 refine R_q _ rfl (v_move (ov rfl)) ?_
 obtain ⟨x, h_x, h⟩ := bnd h
 refine R_q _ rfl (v_ixSG (ov rfl) (ov rfl) tL75 h_x) ?_
 refine R_q _ rfl (v_fieldR (ov rfl) tF81_0) ?_
 refine R_q _ rfl (v_loadS_r (ov rfl) tS3 (at_get (at0 (hdc (n := 0) hd0)))) ?_
 refine R_q _ rfl (v_buildX (zr := (.int .i64 0) :: ((List.map C36 (Vector.replicate 64 0).toList) ++ (((List.map C3 (Vector.replicate 64 0).toList) ++ ((.bool false) :: (.int .i64 0) :: (.bool false) :: []))))) tPL81 tHA81 tZ81 (by kernel_rfl) (.cons (cvs (ov rfl) (cell1_b rfl)) <| .nil) (fa_cons rfl rfl (at0 (hdc (n := 0) hd0)) (put1) <| fa_nil)) ?_
 refine R_w _ _ rfl (w_alloc (row := (.int .i64 0) :: ((List.map C36 (Vector.replicate 64 0).toList) ++ (((List.map C3 (Vector.replicate 64 0).toList) ++ ((.bool false) :: (.int .i64 0) :: (.bool false) :: []))))) 1 rfl tZ81 (by kernel_rfl) (by exact Eq.symm (Eq.trans (b := 132) (lnC (n := 131) (lnA (m := 64) (n := 67) arL (lnA (m := 64) (n := 3) arL (lnC (n := 2) (lnC (n := 1) (lnC (n := 0) (lnN))))))) tZ_81.symm))) ?_
 refine R_w _ _ rfl (w_store (ov rfl) (ov rfl) (cells_agg tA81 (lnC (n := 131) (lnA (m := 64) (n := 67) arL (lnA (m := 64) (n := 3) arL (lnC (n := 2) (lnC (n := 1) (lnC (n := 0) (lnN)))))))) rfl rfl rfl (put_le (at_all (lnC (n := 131) (lnA (m := 64) (n := 67) arL (lnA (m := 64) (n := 3) arL (lnC (n := 2) (lnC (n := 1) (lnC (n := 0) (lnN)))))))) (lnC (n := 131) (lnA (m := 64) (n := 67) arL (lnA (m := 64) (n := 3) arL (lnC (n := 2) (lnC (n := 1) (lnC (n := 0) (lnN)))))))) (cell1_all (alC rfl (alA (arC fun _ => rfl) (alA (arC fun _ => rfl) (alC rfl (alC rfl (alC rfl (alN)))))))) (put_all (Eq.trans (lnC (n := 131) (lnA (m := 64) (n := 67) arL (lnA (m := 64) (n := 3) arL (lnC (n := 2) (lnC (n := 1) (lnC (n := 0) (lnN))))))) (Eq.symm (lnC (n := 131) (lnA (m := 64) (n := 67) arL (lnA (m := 64) (n := 3) arL (lnC (n := 2) (lnC (n := 1) (lnC (n := 0) (lnN))))))))))) ?_
 refine R_nil ?_
 refine T_joinG id (t1 fun Copies => ⟨[(0, .sl 81 (List.map R81 l)), (2, .ptr 0 1 0 0), (3, .ptr 1 1 0 0)], [some ⟨81, [(.int .i64 0) :: ((List.map C36 (Vector.replicate 64 0).toList) ++ (((List.map C3 (Vector.replicate 64 0).toList) ++ ((.bool false) :: (.int .i64 0) :: (.bool false) :: []))))]⟩, some ⟨81, [(.int .i64 x.Number) :: ((List.map C36 (Vector.replicate 64 0).toList) ++ (((List.map C3 (Vector.replicate 64 0).toList) ++ ((.bool false) :: (.int .i64 Copies) :: (.bool false) :: []))))]⟩]⟩) h (fun h => ?_) (fun j h => ?_)
 ·
  refine T_keep (kc 0 rfl <| kc 2 rfl <| kc 3 rfl <| kn) rfl ?_
  refine T_seq (T_reg ?_)
  refine R_q _ rfl (v_move (ov rfl)) ?_
  refine R_q _ rfl (v_len (slv_sl (ov rfl) tZ_81) tL75 (len_map _ _)) ?_
  refine R_q _ rfl (v_move (ov rfl)) ?_
  refine R_nil ?_
  refine T_block ?_
  obtain ⟨r1, hl1, ho1⟩ := bndL h
  refine T_loopG _ (t2 fun Copies2 i => ⟨[(0, .sl 81 (List.map R81 l)), (2, .ptr 0 1 0 0), (3, .ptr 1 1 0 0), (13, .sl 81 (List.map R81 l)), (14, .int .i64 (l.length : Int)), (15, .int .i64 i)], [some ⟨81, [(.int .i64 0) :: ((List.map C36 (Vector.replicate 64 0).toList) ++ (((List.map C3 (Vector.replicate 64 0).toList) ++ ((.bool false) :: (.int .i64 0) :: (.bool false) :: []))))]⟩, some ⟨81, [(.int .i64 x.Number) :: ((List.map C36 (Vector.replicate 64 0).toList) ++ (((List.map C3 (Vector.replicate 64 0).toList) ++ ((.bool false) :: (.int .i64 Copies2) :: (.bool false) :: []))))]⟩]⟩) _ hl1 (Ent.sel [some 0, some 1] (sd 0 rfl rfl <| sr 2 rfl (.ptr _ _ _ rfl) <| sr 3 rfl (.ptr _ _ _ rfl) <| sd 13 rfl rfl <| sd 14 rfl rfl <| sd 15 rfl rfl <| sn) (.cons rfl (ro1 (by exact Eq.trans (b := 132) (lnC (n := 131) (lnA (m := 64) (n := 67) arL (lnA (m := 64) (n := 3) arL (lnC (n := 2) (lnC (n := 1) (lnC (n := 0) (lnN))))))) tZ_81.symm) (rld (alC rfl (alA (arD fun _ => rfl) (alA (arD fun _ => rfl) (alC rfl (alC rfl (alC rfl (alN))))))))) <| .cons rfl (ro1 (by exact Eq.trans (b := 132) (lnC (n := 131) (lnA (m := 64) (n := 67) arL (lnA (m := 64) (n := 3) arL (lnC (n := 2) (lnC (n := 1) (lnC (n := 0) (lnN))))))) tZ_81.symm) (rld (alC rfl (alA (arD fun _ => rfl) (alA (arD fun _ => rfl) (alC rfl (alC rfl (alC rfl (alN))))))))) <| .nil) rfl rfl) (fun n1 s1 h => ?_)
  obtain ⟨Copies2, i⟩ := s1
  replace h := t2i h
  refine t2T ?_
  unfold salvage_merge_L1 at h
  refine T_seq (T_reg ?_)
  refine R_q _ rfl (v_lss (ov rfl) (ov rfl)) ?_
  refine R_nil ?_
  refine T_seq ?_
  refine T_if h rfl (fun b16 h => ?_) (fun b16 h => ?_)
  ·
   refine T_skip ?_
   refine T_seq ?_
   refine T_block ?_
   refine T_keep (kc 0 rfl <| kc 2 rfl <| kc 3 rfl <| kc 13 rfl <| kc 14 rfl <| kc 15 rfl <| kn) rfl ?_
   refine T_seq (T_reg ?_)
   obtain ⟨x2, h_x2, h⟩ := bnd h
   refine R_q _ rfl (v_ixSG (ov rfl) (ov rfl) tL75 h_x2) ?_
   refine R_q _ rfl (v_loadA_r (ov rfl) tA81 (at_sub (at_all (lnC (n := 131) (lnA (m := 64) (n := 67) arL (lnA (m := 64) (n := 3) arL (lnC (n := 2) (lnC (n := 1) (lnC (n := 0) (lnN))))))))) (lnC (n := 131) (lnA (m := 64) (n := 67) arL (lnA (m := 64) (n := 3) arL (lnC (n := 2) (lnC (n := 1) (lnC (n := 0) (lnN)))))))) ?_
   refine R_w _ _ rfl (w_alloc (row := (.int .i64 0) :: ((List.map C36 (Vector.replicate 64 0).toList) ++ (((List.map C3 (Vector.replicate 64 0).toList) ++ ((.bool false) :: (.int .i64 0) :: (.bool false) :: []))))) 2 rfl tZ81 (by kernel_rfl) (by exact Eq.symm (Eq.trans (b := 132) (lnC (n := 131) (lnA (m := 64) (n := 67) arL (lnA (m := 64) (n := 3) arL (lnC (n := 2) (lnC (n := 1) (lnC (n := 0) (lnN))))))) tZ_81.symm))) ?_
   refine R_w _ _ rfl (w_store (ov rfl) (ov rfl) (cells_agg tA81 (lnC (n := 131) (lnA (m := 64) (n := 67) arL (lnA (m := 64) (n := 3) arL (lnC (n := 2) (lnC (n := 1) (lnC (n := 0) (lnN)))))))) rfl rfl rfl (put_le (at_all (lnC (n := 131) (lnA (m := 64) (n := 67) arL (lnA (m := 64) (n := 3) arL (lnC (n := 2) (lnC (n := 1) (lnC (n := 0) (lnN)))))))) (lnC (n := 131) (lnA (m := 64) (n := 67) arL (lnA (m := 64) (n := 3) arL (lnC (n := 2) (lnC (n := 1) (lnC (n := 0) (lnN)))))))) (cell1_all (alC rfl (alA (arC fun _ => rfl) (alA (arC fun _ => rfl) (alC rfl (alC rfl (alC rfl (alN)))))))) (put_all (Eq.trans (lnC (n := 131) (lnA (m := 64) (n := 67) arL (lnA (m := 64) (n := 3) arL (lnC (n := 2) (lnC (n := 1) (lnC (n := 0) (lnN))))))) (Eq.symm (lnC (n := 131) (lnA (m := 64) (n := 67) arL (lnA (m := 64) (n := 3) arL (lnC (n := 2) (lnC (n := 1) (lnC (n := 0) (lnN))))))))))) ?_
   refine R_nil ?_
   refine T_keep (kc 0 rfl <| kc 2 rfl <| kc 3 rfl <| kc 5 rfl <| kc 13 rfl <| kc 14 rfl <| kc 15 rfl <| kn) rfl ?_
   refine T_reg ?_
   refine R_q _ rfl (v_fieldP (ov rfl) rfl rfl tF81_4) ?_
   refine R_q _ rfl (v_loadS (ov rfl) rfl rfl rfl tS3 (at_get (atc (o := 129) (ata (m := 64) (o := 65) arL (ata (m := 64) (o := 1) arL (atc (o := 0) (at0 (hdc (n := 0) hd0)))))))) ?_
   refine R_q _ rfl (v_fieldP (ov rfl) rfl rfl tF81_4) ?_
   refine R_q _ rfl (v_loadS (ov rfl) rfl rfl rfl tS3 (at_get (atc (o := 129) (ata (m := 64) (o := 65) arL (ata (m := 64) (o := 1) arL (atc (o := 0) (at0 (hdc (n := 0) hd0)))))))) ?_
   refine R_q _ rfl (v_add (ov rfl) (ov rfl) rfl) ?_
   refine R_q _ rfl (v_fieldP (ov rfl) rfl rfl tF81_4) ?_
   refine R_w _ _ rfl (w_store (ov rfl) (ov rfl) (cells_scal tS3) rfl rfl rfl (put_le (atc (o := 129) (ata (m := 64) (o := 65) arL (ata (m := 64) (o := 1) arL (atc (o := 0) (at0 (hdc (n := 0) hd0)))))) rfl) (cell1_all rfl) (putc (o := 129) (puta (m := 64) (o := 65) arL (puta (m := 64) (o := 1) arL (putc (o := 0) (put1)))))) ?_
   refine R_nil ?_
   refine T_keep (kc 0 rfl <| kc 2 rfl <| kc 3 rfl <| kc 13 rfl <| kc 14 rfl <| kc 15 rfl <| kn) rfl ?_
   refine T_reg ?_
   refine R_q _ rfl (v_add (ov rfl) (ov rfl) rfl) ?_
   refine R_q _ rfl (v_move (ov rfl)) ?_
   refine R_nil ?_
   exact ⟨((i64 (Copies2 + x2.Copies)), (i64 (i + 1))), h, Ent.sel [some 0, some 1] (sd 0 rfl rfl <| sr 2 rfl (.ptr _ _ _ rfl) <| sr 3 rfl (.ptr _ _ _ rfl) <| sd 13 rfl rfl <| sd 14 rfl rfl <| sd 15 rfl rfl <| sn) (.cons rfl (ro1 (by exact Eq.trans (b := 132) (lnC (n := 131) (lnA (m := 64) (n := 67) arL (lnA (m := 64) (n := 3) arL (lnC (n := 2) (lnC (n := 1) (lnC (n := 0) (lnN))))))) tZ_81.symm) (rld (alC rfl (alA (arD fun _ => rfl) (alA (arD fun _ => rfl) (alC rfl (alC rfl (alC rfl (alN))))))))) <| .cons rfl (ro1 (by exact Eq.trans (b := 132) (lnC (n := 131) (lnA (m := 64) (n := 67) arL (lnA (m := 64) (n := 3) arL (lnC (n := 2) (lnC (n := 1) (lnC (n := 0) (lnN))))))) tZ_81.symm) (rld (alC rfl (alA (arD fun _ => rfl) (alA (arD fun _ => rfl) (alC rfl (alC rfl (alC rfl (alN))))))))) <| .nil) rfl rfl⟩
  ·
   refine T_exit ?_
   rw [lx h] at ho1
   replace h := ho1
   exact ⟨Copies2, h, Ent.sel [some 0, some 1] (sd 0 rfl rfl <| sr 2 rfl (.ptr _ _ _ rfl) <| sr 3 rfl (.ptr _ _ _ rfl) <| sn) (.cons rfl (ro1 (by exact Eq.trans (b := 132) (lnC (n := 131) (lnA (m := 64) (n := 67) arL (lnA (m := 64) (n := 3) arL (lnC (n := 2) (lnC (n := 1) (lnC (n := 0) (lnN))))))) tZ_81.symm) (rld (alC rfl (alA (arD fun _ => rfl) (alA (arD fun _ => rfl) (alC rfl (alC rfl (alC rfl (alN))))))))) <| .cons rfl (ro1 (by exact Eq.trans (b := 132) (lnC (n := 131) (lnA (m := 64) (n := 67) arL (lnA (m := 64) (n := 3) arL (lnC (n := 2) (lnC (n := 1) (lnC (n := 0) (lnN))))))) tZ_81.symm) (rld (alC rfl (alA (arD fun _ => rfl) (alA (arD fun _ => rfl) (alC rfl (alC rfl (alC rfl (alN))))))))) <| .nil) rfl rfl⟩
 ·
  obtain ⟨Copies, rfl⟩ : ∃ x, x = j := ⟨_, rfl⟩
  replace h := t1i h
  refine t1T ?_
  refine T_seq (T_reg ?_)
  refine R_q _ rfl (v_move (ov rfl)) ?_
  obtain ⟨y, h_y, h⟩ := bnd h
  refine R_q _ rfl (v_call (ok_slices_ContainsFunc_api_Rest_api_Rest rfl (fun z0 _ hz => ok_salvage_merge_1 hz) h_y) (.cons (ov rfl) (.b rfl) <| .cons (ov rfl) (.fn) <| .nil)) ?_
  refine R_q _ rfl (v_assign (ov rfl)) ?_
  refine R_nil ?_
  refine T_seq ?_
  refine T_keep (kc 0 rfl <| kc 2 rfl <| kc 3 rfl <| kc 6 rfl <| kn) rfl ?_
  refine T_seq (T_reg ?_)
  refine R_q _ rfl (v_move (ov rfl)) ?_
  obtain ⟨y2, h_y2, h⟩ := bnd h
  refine R_w _ _ rfl (w_callG [1] (ok_salvage_ofSound_w h_y2) (.cons (ov rfl) (.ptr _ _ _ rfl) <| .cons (ov rfl) (.dat rfl) <| .nil) (.cons rfl (ro1 (by exact Eq.trans (b := 132) (lnC (n := 131) (lnA (m := 64) (n := 67) arL (lnA (m := 64) (n := 3) arL (lnC (n := 2) (lnC (n := 1) (lnC (n := 0) (lnN))))))) tZ_81.symm) (rld (alC rfl (alA (arD fun _ => rfl) (alA (arD fun _ => rfl) (alC rfl (alC rfl (alC rfl (alN))))))))) <| .nil) rfl (.keep rfl rfl <| .lent 0 (.inl rfl) rfl (ro1 (by exact Eq.trans (b := 132) (lnC (n := 131) (lnA (m := 64) (n := 67) arL (lnA (m := 64) (n := 3) arL (lnC (n := 2) (lnC (n := 1) (lnC (n := 0) (lnN))))))) tZ_81.symm) (rld (alC rfl (alA (arD fun _ => rfl) (alA (arD fun _ => rfl) (alC rfl (alC rfl (alC rfl (alN))))))))) <| .nil) rfl rfl (.dat rfl)) ?_
  refine R_q _ rfl (v_assign (ov rfl)) ?_
  refine R_nil ?_
  refine T_keep (kc 0 rfl <| kc 2 rfl <| kc 3 rfl <| kc 6 rfl <| kc 7 rfl <| kn) rfl ?_
  refine T_seq (T_reg ?_)
  refine R_q _ rfl (v_move (ov rfl)) ?_
  refine R_q _ rfl (v_move (ov rfl)) ?_
  refine R_q _ rfl (.guarded (y == false) rfl rfl rfl rfl fun h => v_move (ov rfl)) ?_
  refine R_q _ rfl (.guarded (y == false) rfl rfl rfl rfl fun h => v_not (ow rfl h)) ?_
  refine R_q _ rfl (v_or (ov rfl) (fun hp => ow rfl (gF hp))) ?_
  refine R_nil ?_
  refine T_keep (kc 0 rfl <| kc 2 rfl <| kc 3 rfl <| kc 34 rfl <| kn) rfl ?_
  refine T_if h rfl (fun b34 h => ?_) (fun b34 h => ?_)
  ·
   refine T_keep (kc 2 rfl <| kc 3 rfl <| kn) rfl ?_
   refine T_seq (T_reg ?_)
   refine R_q _ rfl (v_fieldP (ov rfl) rfl rfl tF81_0) ?_
   refine R_q _ rfl (v_loadS (ov rfl) rfl rfl rfl tS3 (at_get (at0 (hdc (n := 0) hd0)))) ?_
   refine R_q _ rfl (v_fieldP (ov rfl) rfl rfl tF81_4) ?_
   refine R_q _ rfl (v_loadS (ov rfl) rfl rfl rfl tS3 (at_get (atc (o := 129) (ata (m := 64) (o := 65) arL (ata (m := 64) (o := 1) arL (atc (o := 0) (at0 (hdc (n := 0) hd0)))))))) ?_
   refine R_q _ rfl (v_buildX (zr := (.int .i64 0) :: ((List.map C36 (Vector.replicate 64 0).toList) ++ (((List.map C3 (Vector.replicate 64 0).toList) ++ ((.bool false) :: (.int .i64 0) :: (.bool false) :: []))))) tPL81 tHA81 tZ81 (by kernel_rfl) (.cons (cvs (ov rfl) (cell1_b rfl)) <| .cons (cvs (ov rfl) (cell1_b rfl)) <| .cons (cvs (ov rfl) (cell1_b rfl)) <| .nil) (fa_cons rfl rfl (at0 (hdc (n := 0) hd0)) (put1) <| fa_cons rfl rfl (atc (o := 129) (ata (m := 64) (o := 65) arL (ata (m := 64) (o := 1) arL (atc (o := 0) (at0 (hdc (n := 0) hd0)))))) (putc (o := 129) (puta (m := 64) (o := 65) arL (puta (m := 64) (o := 1) arL (putc (o := 0) (put1))))) <| fa_cons rfl rfl (atc (o := 130) (ata (m := 64) (o := 66) arL (ata (m := 64) (o := 2) arL (atc (o := 1) (atc (o := 0) (at0 (hdc (n := 0) hd0))))))) (putc (o := 130) (puta (m := 64) (o := 66) arL (puta (m := 64) (o := 2) arL (putc (o := 1) (putc (o := 0) (put1)))))) <| fa_nil)) ?_
   refine R_w _ _ rfl (w_store (ov rfl) (ov rfl) (cells_agg tA81 (lnC (n := 131) (lnA (m := 64) (n := 67) arL (lnA (m := 64) (n := 3) arL (lnC (n := 2) (lnC (n := 1) (lnC (n := 0) (lnN)))))))) rfl rfl rfl (put_le (at_all (lnC (n := 131) (lnA (m := 64) (n := 67) arL (lnA (m := 64) (n := 3) arL (lnC (n := 2) (lnC (n := 1) (lnC (n := 0) (lnN)))))))) (lnC (n := 131) (lnA (m := 64) (n := 67) arL (lnA (m := 64) (n := 3) arL (lnC (n := 2) (lnC (n := 1) (lnC (n := 0) (lnN)))))))) (cell1_all (alC rfl (alA (arC fun _ => rfl) (alA (arC fun _ => rfl) (alC rfl (alC rfl (alC rfl (alN)))))))) (put_all (Eq.trans (lnC (n := 131) (lnA (m := 64) (n := 67) arL (lnA (m := 64) (n := 3) arL (lnC (n := 2) (lnC (n := 1) (lnC (n := 0) (lnN))))))) (Eq.symm (lnC (n := 131) (lnA (m := 64) (n := 67) arL (lnA (m := 64) (n := 3) arL (lnC (n := 2) (lnC (n := 1) (lnC (n := 0) (lnN))))))))))) ?_
   refine R_nil ?_
   obtain rfl := rt (v := (api_Rest.mk y2.2.Number (Vector.replicate 64 0) (Vector.replicate 64 0) false y2.2.Copies true)) h
   refine T_ret (retq ?_ (.one (.agg rfl rfl rfl rfl tA81 (at_sub (at_all (lnC (n := 131) (lnA (m := 64) (n := 67) arL (lnA (m := 64) (n := 3) arL (lnC (n := 2) (lnC (n := 1) (lnC (n := 0) (lnN))))))))) (lnC (n := 131) (lnA (m := 64) (n := 67) arL (lnA (m := 64) (n := 3) arL (lnC (n := 2) (lnC (n := 1) (lnC (n := 0) (lnN))))))) (pwB (alC rfl (alA (arD fun _ => rfl) (alA (arD fun _ => rfl) (alC rfl (alC rfl (alC rfl (alN)))))))) (hns := nsC rfl (nsA (nsM fun _ => rfl) (nsA (nsM fun _ => rfl) (nsC rfl (nsC rfl (nsC rfl (nsR rfl))))))))))
   rfl
  ·
   refine T_skip ?_
   refine T_joinG id (t1 fun out => ⟨[(2, .ptr 0 1 0 0), (3, .ptr 1 1 0 0)], [some ⟨81, [(.int .i64 0) :: ((List.map C36 (Vector.replicate 64 0).toList) ++ (((List.map C3 (Vector.replicate 64 0).toList) ++ ((.bool false) :: (.int .i64 0) :: (.bool false) :: []))))]⟩, some ⟨81, [(.int .i64 out.Number) :: ((List.map C36 out.Frame.toList) ++ (((List.map C3 out.States.toList) ++ ((.bool out.Sound) :: (.int .i64 out.Copies) :: (.bool out.Conflict) :: []))))]⟩]⟩) h (fun h => ?_) (fun j h => ?_)
   ·
    refine T_keep (kc 0 rfl <| kc 2 rfl <| kc 3 rfl <| kn) rfl ?_
    refine T_seq (T_reg ?_)
    refine R_q _ rfl (v_fieldP (ov rfl) rfl rfl tF81_3) ?_
    refine R_q _ rfl (v_loadS (ov rfl) rfl rfl rfl tS4 (at_get (atc (o := 128) (ata (m := 64) (o := 64) arL (ata (m := 64) (o := 0) arL (at0 (hdc (n := 0) hd0))))))) ?_
    refine R_q _ rfl (v_not (ov rfl)) ?_
    refine R_nil ?_
    refine T_keep (kc 0 rfl <| kc 2 rfl <| kc 3 rfl <| kc 42 rfl <| kn) rfl ?_
    refine T_if h rfl (fun b42 h => ?_) (fun b42 h => ?_)
    ·
     refine T_keep (kc 0 rfl <| kc 2 rfl <| kc 3 rfl <| kn) rfl ?_
     refine T_seq (T_reg ?_)
     refine R_q _ rfl (v_move (ov rfl)) ?_
     obtain ⟨y3, h_y3, h⟩ := bnd h
     refine R_w _ _ rfl (w_callG [1] (ok_salvage_ofParts_w h_y3) (.cons (ov rfl) (.ptr _ _ _ rfl) <| .cons (ov rfl) (.dat rfl) <| .nil) (.cons rfl (ro1 (by exact Eq.trans (b := 132) (lnC (n := 131) (lnA (m := 64) (n := 67) arL (lnA (m := 64) (n := 3) arL (lnC (n := 2) (lnC (n := 1) (lnC (n := 0) (lnN))))))) tZ_81.symm) (rld (alC rfl (alA (arD fun _ => rfl) (alA (arD fun _ => rfl) (alC rfl (alC rfl (alC rfl (alN))))))))) <| .nil) rfl (.keep rfl rfl <| .lent 0 (.inl rfl) rfl (ro1 (by exact Eq.trans (b := 132) (lnC (n := 131) (lnA (m := 64) (n := 67) arL (lnA (m := 64) (n := 3) arL (lnC (n := 2) (lnC (n := 1) (lnC (n := 0) (lnN))))))) tZ_81.symm) (rld (alC rfl (alA (arD fun _ => rfl) (alA (arD fun _ => rfl) (alC rfl (alC rfl (alC rfl (alN))))))))) <| .nil) rfl rfl (rTup (rld rfl))) ?_
     refine R_nil ?_
     refine T_keep (kc 2 rfl <| kc 3 rfl <| kn) rfl ?_
     refine T_seq (T_reg ?_)
     refine R_q _ rfl (v_loadA (ov rfl) rfl rfl rfl tA81 (at_sub (at_all (lnC (n := 131) (lnA (m := 64) (n := 67) arL (lnA (m := 64) (n := 3) arL (lnC (n := 2) (lnC (n := 1) (lnC (n := 0) (lnN))))))))) (lnC (n := 131) (lnA (m := 64) (n := 67) arL (lnA (m := 64) (n := 3) arL (lnC (n := 2) (lnC (n := 1) (lnC (n := 0) (lnN))))))) (hns := nsC rfl (nsA (nsM fun _ => rfl) (nsA (nsM fun _ => rfl) (nsC rfl (nsC rfl (nsC rfl (nsR rfl)))))))) ?_
     obtain ⟨y4, h_y4, h⟩ := bnd h
     refine R_q _ rfl (v_call (ok_salvage_some h_y4) (.cons (ov rfl) (.aggB (alC rfl (alA (arD fun _ => rfl) (alA (arD fun _ => rfl) (alC rfl (alC rfl (alC rfl (alN)))))))) <| .cons (ov rfl) (.b rfl) <| .cons (ov rfl) (.b rfl) <| .nil)) ?_
     refine R_q _ rfl (v_not (ov rfl)) ?_
     refine R_q _ rfl (v_move (ov rfl)) ?_
     refine R_q _ rfl (.guarded ((!y4) == true) rfl rfl rfl rfl fun h => v_fieldP (ov rfl) rfl rfl tF81_1) ?_
     refine R_q _ rfl (.guarded ((!y4) == true) rfl rfl rfl rfl fun h => v_loadA (ow rfl h) rfl rfl rfl tA38 (at_sub (atc (o := 0) (at0 (hdw arL)))) arL (hns := (nsM fun _ => rfl))) ?_
     refine R_q _ rfl (.guarded ((!y4) == true) rfl rfl rfl rfl fun h => v_fieldP (ov rfl) rfl rfl tF81_0) ?_
     refine R_q _ rfl (.guarded ((!y4) == true) rfl rfl rfl rfl fun h => v_loadS (ow rfl h) rfl rfl rfl tS3 (at_get (at0 (hdc (n := 0) hd0)))) ?_
     obtain ⟨y5, h_y5, h⟩ := bnd h
     refine R_q _ rfl (.guarded ((!y4) == true) rfl rfl rfl rfl fun h => v_call (ok_salvage_soundAs (gdT h_y5 h)) (.cons (ow rfl h) (.aggB (arD fun _ => rfl)) <| .cons (ow rfl h) (.b rfl) <| .nil)) ?_
     refine R_q _ rfl (v_and (ov rfl) (fun hp => ow rfl (gT hp))) ?_
     refine R_nil ?_
     refine T_keep (kc 2 rfl <| kc 3 rfl <| kc 54 rfl <| kn) rfl ?_
     refine T_if h rfl (fun b54 h => ?_) (fun b54 h => ?_)
     ·
      refine T_keep (kc 2 rfl <| kc 3 rfl <| kn) rfl ?_
      refine T_reg ?_
      obtain ⟨y6, h_y6, h⟩ := bnd h
      refine R_q _ rfl (v_call (ok_salvage_filled h_y6) (.cons (ov rfl) (.b rfl) <| .nil)) ?_
      refine R_q _ rfl (v_fieldP (ov rfl) rfl rfl tF81_3) ?_
      refine R_w _ _ rfl (w_store (ov rfl) (ov rfl) (cells_scal tS4) rfl rfl rfl (put_le (atc (o := 128) (ata (m := 64) (o := 64) arL (ata (m := 64) (o := 0) arL (at0 (hdc (n := 0) hd0))))) rfl) (cell1_all rfl) (putc (o := 128) (puta (m := 64) (o := 64) arL (puta (m := 64) (o := 0) arL (put1))))) ?_
      refine R_q _ rfl (v_fieldP (ov rfl) rfl rfl tF81_2) ?_
      refine R_w _ _ rfl (w_store (ov rfl) (ov rfl) (cells_agg tA79 arL) rfl rfl rfl (put_le (atc (o := 64) (ata (m := 64) (o := 0) arL (at0 (hdw arL)))) arL) (cell1_all (arC fun _ => rfl)) (putc (o := 64) (puta (m := 64) (o := 0) arL (putw (Eq.trans arL (Eq.symm arL)))))) ?_
      refine R_q _ rfl (v_fieldP (ov rfl) rfl rfl tF81_4) ?_
      refine R_w _ _ rfl (w_store (ov rfl) (ov rfl) (cells_scal tS3) rfl rfl rfl (put_le (atc (o := 129) (ata (m := 64) (o := 65) arL (ata (m := 64) (o := 1) arL (atc (o := 0) (at0 (hdc (n := 0) hd0)))))) rfl) (cell1_all rfl) (putc (o := 129) (puta (m := 64) (o := 65) arL (puta (m := 64) (o := 1) arL (putc (o := 0) (put1)))))) ?_
      refine R_nil ?_
      exact ⟨(api_Rest.mk y3.Number y3.Frame y6 true 1 y3.Conflict), h, Ent.sel [some 0, some 1] (sr 2 rfl (.ptr _ _ _ rfl) <| sr 3 rfl (.ptr _ _ _ rfl) <| sn) (.cons rfl (ro1 (by exact Eq.trans (b := 132) (lnC (n := 131) (lnA (m := 64) (n := 67) arL (lnA (m := 64) (n := 3) arL (lnC (n := 2) (lnC (n := 1) (lnC (n := 0) (lnN))))))) tZ_81.symm) (rld (alC rfl (alA (arD fun _ => rfl) (alA (arD fun _ => rfl) (alC rfl (alC rfl (alC rfl (alN))))))))) <| .cons rfl (ro1 (by exact Eq.trans (b := 132) (lnC (n := 131) (lnA (m := 64) (n := 67) arL (lnA (m := 64) (n := 3) arL (lnC (n := 2) (lnC (n := 1) (lnC (n := 0) (lnN))))))) tZ_81.symm) (rld (alC rfl (alA (arD fun _ => rfl) (alA (arD fun _ => rfl) (alC rfl (alC rfl (alC rfl (alN))))))))) <| .nil) rfl rfl⟩
     ·
      refine T_skip ?_
      exact ⟨y3, h, Ent.sel [some 0, some 1] (sr 2 rfl (.ptr _ _ _ rfl) <| sr 3 rfl (.ptr _ _ _ rfl) <| sn) (.cons rfl (ro1 (by exact Eq.trans (b := 132) (lnC (n := 131) (lnA (m := 64) (n := 67) arL (lnA (m := 64) (n := 3) arL (lnC (n := 2) (lnC (n := 1) (lnC (n := 0) (lnN))))))) tZ_81.symm) (rld (alC rfl (alA (arD fun _ => rfl) (alA (arD fun _ => rfl) (alC rfl (alC rfl (alC rfl (alN))))))))) <| .cons rfl (ro1 (by exact Eq.trans (b := 132) (lnC (n := 131) (lnA (m := 64) (n := 67) arL (lnA (m := 64) (n := 3) arL (lnC (n := 2) (lnC (n := 1) (lnC (n := 0) (lnN))))))) tZ_81.symm) (rld (alC rfl (alA (arD fun _ => rfl) (alA (arD fun _ => rfl) (alC rfl (alC rfl (alC rfl (alN))))))))) <| .nil) rfl rfl⟩
    ·
     refine T_skip ?_
     exact ⟨y2.2, h, Ent.sel [some 0, some 1] (sr 2 rfl (.ptr _ _ _ rfl) <| sr 3 rfl (.ptr _ _ _ rfl) <| sn) (.cons rfl (ro1 (by exact Eq.trans (b := 132) (lnC (n := 131) (lnA (m := 64) (n := 67) arL (lnA (m := 64) (n := 3) arL (lnC (n := 2) (lnC (n := 1) (lnC (n := 0) (lnN))))))) tZ_81.symm) (rld (alC rfl (alA (arD fun _ => rfl) (alA (arD fun _ => rfl) (alC rfl (alC rfl (alC rfl (alN))))))))) <| .cons rfl (ro1 (by exact Eq.trans (b := 132) (lnC (n := 131) (lnA (m := 64) (n := 67) arL (lnA (m := 64) (n := 3) arL (lnC (n := 2) (lnC (n := 1) (lnC (n := 0) (lnN))))))) tZ_81.symm) (rld (alC rfl (alA (arD fun _ => rfl) (alA (arD fun _ => rfl) (alC rfl (alC rfl (alC rfl (alN))))))))) <| .nil) rfl rfl⟩
   ·
    obtain ⟨out, rfl⟩ : ∃ x, x = j := ⟨_, rfl⟩
    replace h := t1i h
    refine t1T ?_
    refine T_seq ?_
    refine T_seq (T_reg ?_)
    refine R_q _ rfl (v_fieldP (ov rfl) rfl rfl tF81_3) ?_
    refine R_q _ rfl (v_loadS (ov rfl) rfl rfl rfl tS4 (at_get (atc (o := 128) (ata (m := 64) (o := 64) arL (ata (m := 64) (o := 0) arL (at0 (hdc (n := 0) hd0))))))) ?_
    refine R_q _ rfl (v_move (ov rfl)) ?_
    refine R_q _ rfl (.guarded (out.Sound == true) rfl rfl rfl rfl fun h => v_loadA (ov rfl) rfl rfl rfl tA81 (at_sub (at_all (lnC (n := 131) (lnA (m := 64) (n := 67) arL (lnA (m := 64) (n := 3) arL (lnC (n := 2) (lnC (n := 1) (lnC (n := 0) (lnN))))))))) (lnC (n := 131) (lnA (m := 64) (n := 67) arL (lnA (m := 64) (n := 3) arL (lnC (n := 2) (lnC (n := 1) (lnC (n := 0) (lnN))))))) (hns := nsC rfl (nsA (nsM fun _ => rfl) (nsA (nsM fun _ => rfl) (nsC rfl (nsC rfl (nsC rfl (nsR rfl)))))))) ?_
    obtain ⟨y7, h_y7, h⟩ := bnd h
    refine R_q _ rfl (.guarded (out.Sound == true) rfl rfl rfl rfl fun h => v_call (ok_salvage_all (gdT h_y7 h)) (.cons (ow rfl h) (.aggB (alC rfl (alA (arD fun _ => rfl) (alA (arD fun _ => rfl) (alC rfl (alC rfl (alC rfl (alN)))))))) <| .cons (ov rfl) (.b rfl) <| .nil)) ?_
    refine R_q _ rfl (v_and (ov rfl) (fun hp => ow rfl (gT hp))) ?_
    refine R_nil ?_
    refine T_keep (kc 2 rfl <| kc 3 rfl <| kc 64 rfl <| kn) rfl ?_
    refine T_if h rfl (fun b64 h => ?_) (fun b64 h => ?_)
    ·
     refine T_keep (kc 2 rfl <| kc 3 rfl <| kn) rfl ?_
     refine T_reg ?_
     refine R_q _ rfl (v_fieldP (ov rfl) rfl rfl tF81_4) ?_
     refine R_q _ rfl (v_loadS (ov rfl) rfl rfl rfl tS3 (at_get (atc (o := 129) (ata (m := 64) (o := 65) arL (ata (m := 64) (o := 1) arL (atc (o := 0) (at0 (hdc (n := 0) hd0)))))))) ?_
     refine R_q _ rfl (v_max (ov rfl) (ov rfl) rfl) ?_
     refine R_q _ rfl (v_fieldP (ov rfl) rfl rfl tF81_4) ?_
     refine R_w _ _ rfl (w_store (ov rfl) (ov rfl) (cells_scal tS3) rfl rfl rfl (put_le (atc (o := 129) (ata (m := 64) (o := 65) arL (ata (m := 64) (o := 1) arL (atc (o := 0) (at0 (hdc (n := 0) hd0)))))) rfl) (cell1_all rfl) (putc (o := 129) (puta (m := 64) (o := 65) arL (puta (m := 64) (o := 1) arL (putc (o := 0) (put1)))))) ?_
     refine R_nil ?_
     refine T_keep (kc 2 rfl <| kc 3 rfl <| kn) rfl ?_
     refine T_seq (T_reg ?_)
     refine R_q _ rfl (v_loadA (ov rfl) rfl rfl rfl tA81 (at_sub (at_all (lnC (n := 131) (lnA (m := 64) (n := 67) arL (lnA (m := 64) (n := 3) arL (lnC (n := 2) (lnC (n := 1) (lnC (n := 0) (lnN))))))))) (lnC (n := 131) (lnA (m := 64) (n := 67) arL (lnA (m := 64) (n := 3) arL (lnC (n := 2) (lnC (n := 1) (lnC (n := 0) (lnN))))))) (hns := nsC rfl (nsA (nsM fun _ => rfl) (nsA (nsM fun _ => rfl) (nsC rfl (nsC rfl (nsC rfl (nsR rfl)))))))) ?_
     refine R_w _ _ rfl (w_store (ov rfl) (ov rfl) (cells_agg tA81 (lnC (n := 131) (lnA (m := 64) (n := 67) arL (lnA (m := 64) (n := 3) arL (lnC (n := 2) (lnC (n := 1) (lnC (n := 0) (lnN)))))))) rfl rfl rfl (put_le (at_all (lnC (n := 131) (lnA (m := 64) (n := 67) arL (lnA (m := 64) (n := 3) arL (lnC (n := 2) (lnC (n := 1) (lnC (n := 0) (lnN)))))))) (lnC (n := 131) (lnA (m := 64) (n := 67) arL (lnA (m := 64) (n := 3) arL (lnC (n := 2) (lnC (n := 1) (lnC (n := 0) (lnN)))))))) (cell1_all (alC rfl (alA (arC fun _ => rfl) (alA (arC fun _ => rfl) (alC rfl (alC rfl (alC rfl (alN)))))))) (put_all (Eq.trans (lnC (n := 131) (lnA (m := 64) (n := 67) arL (lnA (m := 64) (n := 3) arL (lnC (n := 2) (lnC (n := 1) (lnC (n := 0) (lnN))))))) (Eq.symm (lnC (n := 131) (lnA (m := 64) (n := 67) arL (lnA (m := 64) (n := 3) arL (lnC (n := 2) (lnC (n := 1) (lnC (n := 0) (lnN))))))))))) ?_
     refine R_nil ?_
     obtain rfl := rt (v := (api_Rest.mk out.Number out.Frame out.States out.Sound (max out.Copies 1) out.Conflict)) h
     refine T_ret (retq ?_ (.one (.agg rfl rfl rfl rfl tA81 (at_sub (at_all (lnC (n := 131) (lnA (m := 64) (n := 67) arL (lnA (m := 64) (n := 3) arL (lnC (n := 2) (lnC (n := 1) (lnC (n := 0) (lnN))))))))) (lnC (n := 131) (lnA (m := 64) (n := 67) arL (lnA (m := 64) (n := 3) arL (lnC (n := 2) (lnC (n := 1) (lnC (n := 0) (lnN))))))) (pwB (alC rfl (alA (arD fun _ => rfl) (alA (arD fun _ => rfl) (alC rfl (alC rfl (alC rfl (alN)))))))) (hns := nsC rfl (nsA (nsM fun _ => rfl) (nsA (nsM fun _ => rfl) (nsC rfl (nsC rfl (nsC rfl (nsR rfl))))))))))
     rfl
    ·
     refine T_skip ?_
     refine T_keep (kc 2 rfl <| kc 3 rfl <| kn) rfl ?_
     refine T_seq (T_reg ?_)
     refine R_q _ rfl (v_loadA (ov rfl) rfl rfl rfl tA81 (at_sub (at_all (lnC (n := 131) (lnA (m := 64) (n := 67) arL (lnA (m := 64) (n := 3) arL (lnC (n := 2) (lnC (n := 1) (lnC (n := 0) (lnN))))))))) (lnC (n := 131) (lnA (m := 64) (n := 67) arL (lnA (m := 64) (n := 3) arL (lnC (n := 2) (lnC (n := 1) (lnC (n := 0) (lnN))))))) (hns := nsC rfl (nsA (nsM fun _ => rfl) (nsA (nsM fun _ => rfl) (nsC rfl (nsC rfl (nsC rfl (nsR rfl)))))))) ?_
     refine R_w _ _ rfl (w_store (ov rfl) (ov rfl) (cells_agg tA81 (lnC (n := 131) (lnA (m := 64) (n := 67) arL (lnA (m := 64) (n := 3) arL (lnC (n := 2) (lnC (n := 1) (lnC (n := 0) (lnN)))))))) rfl rfl rfl (put_le (at_all (lnC (n := 131) (lnA (m := 64) (n := 67) arL (lnA (m := 64) (n := 3) arL (lnC (n := 2) (lnC (n := 1) (lnC (n := 0) (lnN)))))))) (lnC (n := 131) (lnA (m := 64) (n := 67) arL (lnA (m := 64) (n := 3) arL (lnC (n := 2) (lnC (n := 1) (lnC (n := 0) (lnN)))))))) (cell1_all (alC rfl (alA (arC fun _ => rfl) (alA (arC fun _ => rfl) (alC rfl (alC rfl (alC rfl (alN)))))))) (put_all (Eq.trans (lnC (n := 131) (lnA (m := 64) (n := 67) arL (lnA (m := 64) (n := 3) arL (lnC (n := 2) (lnC (n := 1) (lnC (n := 0) (lnN))))))) (Eq.symm (lnC (n := 131) (lnA (m := 64) (n := 67) arL (lnA (m := 64) (n := 3) arL (lnC (n := 2) (lnC (n := 1) (lnC (n := 0) (lnN))))))))))) ?_
     refine R_nil ?_
     obtain rfl := rt (v := out) h
     refine T_ret (retq ?_ (.one (.agg rfl rfl rfl rfl tA81 (at_sub (at_all (lnC (n := 131) (lnA (m := 64) (n := 67) arL (lnA (m := 64) (n := 3) arL (lnC (n := 2) (lnC (n := 1) (lnC (n := 0) (lnN))))))))) (lnC (n := 131) (lnA (m := 64) (n := 67) arL (lnA (m := 64) (n := 3) arL (lnC (n := 2) (lnC (n := 1) (lnC (n := 0) (lnN))))))) (pwB (alC rfl (alA (arD fun _ => rfl) (alA (arD fun _ => rfl) (alC rfl (alC rfl (alC rfl (alN)))))))) (hns := nsC rfl (nsA (nsM fun _ => rfl) (nsA (nsM fun _ => rfl) (nsC rfl (nsC rfl (nsC rfl (nsR rfl))))))))))
     rfl
end Go.Proofs.YtciaeohnkfnamaaDoor
