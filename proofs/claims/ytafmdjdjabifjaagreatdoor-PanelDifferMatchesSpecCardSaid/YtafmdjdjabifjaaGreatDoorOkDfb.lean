/- A text of the proof: a verified executor of the program form, or the contracts of the functions that the law reaches. -/
import Derived.Test.YtafmdjdjabifjaaGreatDoorOkDfa
set_option linter.all false
namespace Go.Proofs.YtafmdjdjabifjaaGreatDoor
open Go Go.Vx
set_option maxRecDepth 10000
set_option maxHeartbeats 1000000
set_option linter.unusedVariables false
theorem ok_panel_advance {p : api_Panel} {l : List api_Track} {s : api_PanelState} {r : api_PanelState} (h : panel_advance p l s = some r) :
  CSpec Tryz.prog gl0 71 [.agg [.sl 55 (List.map R55 p.Instruments)], .sl 26 (List.map R26 l), .agg [.int .i64 s.Frame, .sl 129 (List.map R129 s.Memos)]] (.agg [.int .i64 r.Frame, .sl 129 (List.map R129 r.Memos)]) := by
 unfold panel_advance at h
 replace h := bnd0 h
 refine spec_of (by kernel_rfl) Tryz.func71 rfl rfl ?_
 intro w0 A
 refine T_seq (T_reg ?_)
 refine R_q _ rfl (v_boxD (cva (ov rfl)) rfl tZ_41 rfl) ?_
 refine R_q _ rfl (v_boxD (cva (ov rfl)) rfl tZ_65 rfl) ?_
 refine R_w _ _ rfl (w_alloc (row := [_, _]) 0 rfl tZ65 rfl tZ_65) ?_
 refine R_nil ?_
 refine T_keep (kc 1 rfl <| kc 3 rfl <| kc 5 rfl <| kc 6 rfl <| kn) rfl ?_
 refine T_seq (T_reg ?_)
 refine R_q _ rfl (v_fieldR (ov rfl) tF65_0) ?_
 refine R_q _ rfl (v_loadS_r (ov rfl) tS3 rfl) ?_
 refine R_q _ rfl (v_add (ov rfl) (ov rfl) rfl) ?_
 refine R_q _ rfl (v_build (ys := [_, _]) tPL65 tHA65 tZ65 (.cons (cvs (ov rfl) (cell1_b rfl)) <| .nil) rfl) ?_
 refine R_w _ _ rfl (w_alloc (row := [_, _]) 1 rfl tZ65 rfl tZ_65) ?_
 refine R_w _ _ rfl (w_store (ov rfl) (ov rfl) (cells_agg tA65 rfl) rfl rfl rfl (Nat.le_of_ble_eq_true rfl) (cell1_all rfl) rfl) ?_
 refine R_nil ?_
 refine T_joinG id (t1 fun Memos => ⟨[(6, .ptr 0 1 0 0), (7, .ptr 1 1 0 0)], [some ⟨65, [[.int .i64 0, .nils]]⟩, some ⟨65, [[.int .i64 (i64 (s.Frame + 1)), .own 2 Memos.length]]⟩, some ⟨129, List.map R129 Memos⟩]⟩) h (fun h => ?_) (fun j h => ?_)
 ·
  refine T_keep (kc 1 rfl <| kc 3 rfl <| kc 5 rfl <| kc 6 rfl <| kc 7 rfl <| kn) rfl ?_
  refine T_seq (T_reg ?_)
  refine R_q _ rfl (v_fieldR (ov rfl) tF41_0) ?_
  refine R_q _ rfl (v_loadS_r (ov rfl) tS39 rfl) ?_
  refine R_q _ rfl (v_len (slv_sl (ov rfl) tZ_55) tL39 (len_map _ _)) ?_
  refine R_q _ rfl (v_move (ov rfl)) ?_
  refine R_nil ?_
  refine T_block ?_
  obtain ⟨r1, hl1, ho1⟩ := bndL h
  refine T_loopG _ (t2 fun Memos2 i => ⟨[(1, .sl 26 (List.map R26 l)), (5, .rp [.int .i64 s.Frame, .sl 129 (List.map R129 s.Memos)] 0), (6, .ptr 0 1 0 0), (7, .ptr 1 1 0 0), (18, .sl 55 (List.map R55 p.Instruments)), (19, .int .i64 (p.Instruments.length : Int)), (20, .int .i64 i)], [some ⟨65, [[.int .i64 0, .nils]]⟩, some ⟨65, [[.int .i64 (i64 (s.Frame + 1)), .own 2 Memos2.length]]⟩, some ⟨129, List.map R129 Memos2⟩]⟩) _ hl1 (Ent.sel [some 0, some 1, none] (sd 1 rfl rfl <| sd 5 rfl rfl <| sr 6 rfl (.ptr _ _ _ rfl) <| sr 7 rfl (.ptr _ _ _ rfl) <| sd 18 rfl rfl <| sd 19 rfl rfl <| sd 20 rfl rfl <| sn) (.cons rfl (ro1 (by exact tZ_65.symm) (rld rfl)) <| .cons rfl (ro1 (by exact tZ_65.symm) (rlc (.dat rfl) <| rlc (.row rfl) <| rln)) <| .row 129 <| .nil) rfl rfl) (fun n1 s1 h => ?_)
  obtain ⟨Memos2, i⟩ := s1
  replace h := t2i h
  refine t2T ?_
  unfold panel_advance_L1 at h
  refine T_seq (T_reg ?_)
  refine R_q _ rfl (v_lss (ov rfl) (ov rfl)) ?_
  refine R_nil ?_
  refine T_seq ?_
  refine T_if h rfl (fun b21 h => ?_) (fun b21 h => ?_)
  ·
   refine T_skip ?_
   refine T_seq ?_
   refine T_block ?_
   refine T_keep (kc 1 rfl <| kc 5 rfl <| kc 6 rfl <| kc 7 rfl <| kc 18 rfl <| kc 19 rfl <| kc 20 rfl <| kn) rfl ?_
   refine T_seq (T_reg ?_)
   refine R_q _ rfl (v_move (ov rfl)) ?_
   obtain ⟨x, h_x, h⟩ := bnd h
   refine R_q _ rfl (v_ixSG (ov rfl) (ov rfl) tL39 h_x) ?_
   refine R_q _ rfl (v_loadA_r (ov rfl) tA55 rfl rfl) ?_
   refine R_w _ _ rfl (w_alloc (row := [_, _, _, _, _, _, _, _, _, _, _, _]) 3 rfl tZ55 rfl tZ_55) ?_
   refine R_q _ rfl (v_assign (ov rfl)) ?_
   refine R_w _ _ rfl (w_store (ov rfl) (ov rfl) (cells_agg tA55 rfl) rfl rfl rfl (Nat.le_of_ble_eq_true rfl) (cell1_all rfl) rfl) ?_
   refine R_nil ?_
   refine T_keep (kc 1 rfl <| kc 5 rfl <| kc 6 rfl <| kc 7 rfl <| kc 8 rfl <| kc 9 rfl <| kc 18 rfl <| kc 19 rfl <| kc 20 rfl <| kn) rfl ?_
   refine T_seq (T_draw (cw := md0) (by kernel_rfl) ?_)
   refine D_free 0 _ rfl (by kernel_rfl) rfl rfl (fun hp' => v_move (ov rfl)) ?_
   refine D_free 1 _ rfl (by kernel_rfl) rfl rfl (fun hp' => v_move (ov rfl)) ?_
   refine D_read 2 _ rfl (by kernel_rfl) rfl rfl rfl ExtW.refl (fun hp' hx => v_loadA (ov rfl) (hx.get rfl rfl) rfl rfl tA55 rfl rfl) ?_
   obtain ⟨y, h_y, h⟩ := bnd h
   refine D_read 3 _ rfl (by kernel_rfl) rfl rfl rfl ExtW.refl (fun hp' hx => v_call (ok_panel_trackOf h_y) (.cons (ov rfl) (.b rfl) <| .cons (ov rfl) (.aggB rfl) <| .nil)) ?_
   obtain ⟨x2, h_x2, h⟩ := bnd h
   refine D_read 4 _ rfl (by kernel_rfl) rfl rfl rfl ExtW.refl (fun hp' hx => v_ixSG (ov rfl) (ov rfl) tL42 h_x2) ?_
   refine D_read 5 _ rfl (by kernel_rfl) rfl rfl rfl ExtW.refl (fun hp' hx => v_loadA_r (ov rfl) tA26 rfl rfl) ?_
   refine D_read 6 _ rfl (by kernel_rfl) rfl rfl rfl ExtW.refl (fun hp' hx => v_fieldP (ov rfl) (hx.get rfl rfl) rfl tF65_0) ?_
   refine D_read 7 _ rfl (by kernel_rfl) rfl rfl rfl ExtW.refl (fun hp' hx => v_loadS (ov rfl) (hx.get rfl rfl) rfl rfl tS3 rfl) ?_
   obtain ⟨y2, h_y2, h⟩ := bnd h
   refine D_read 8 _ rfl (by kernel_rfl) rfl rfl rfl ExtW.refl (fun hp' hx => v_call (ok_panel_value h_y2) (.cons (ov rfl) (.aggB rfl) <| .cons (ov rfl) (.b rfl) <| .nil)) ?_
   refine D_free 9 _ rfl (by kernel_rfl) rfl rfl (fun hp' => v_move (ov rfl)) ?_
   refine D_free 10 _ rfl (by kernel_rfl) rfl rfl (fun hp' => v_extract (ov rfl) rfl) ?_
   refine D_free 11 _ rfl (by kernel_rfl) rfl rfl (fun hp' => v_extract (ov rfl) rfl) ?_
   refine D_one 12 _ _ rfl (by kernel_rfl) rfl rfl (fun _ => Ext.app) (fun h => by cases h) (w_alloc (row := [_, _, _]) 4 rfl tZ28 rfl tZ_28) ?_
   refine D_one 13 _ _ rfl (by kernel_rfl) rfl rfl (fun h => by cases h) (fun h => by cases h) (w_store (ov rfl) (ov rfl) (cells_agg tA28 rfl) rfl rfl rfl (Nat.le_of_ble_eq_true rfl) (cell1_all rfl) rfl) ?_
   refine D_q0 14 _ rfl (by kernel_rfl) rfl rfl (v_assign (ov rfl)) ?_
   refine D_done (by kernel_rfl) ?_
   refine T_keep (kc 1 rfl <| kc 5 rfl <| kc 6 rfl <| kc 7 rfl <| kc 8 rfl <| kc 9 rfl <| kc 10 rfl <| kc 11 rfl <| kc 18 rfl <| kc 19 rfl <| kc 20 rfl <| kn) rfl ?_
   refine T_seq (T_reg ?_)
   refine R_q _ rfl (v_fieldR (ov rfl) tF65_1) ?_
   refine R_q _ rfl (v_loadS_r (ov rfl) tS63 rfl) ?_
   refine R_q _ rfl (v_move (ov rfl)) ?_
   obtain ⟨x3, h_x3, h⟩ := bnd h
   refine R_q _ rfl (v_ixSG (ov rfl) (ov rfl) tL63 h_x3) ?_
   refine R_q _ rfl (v_loadA_r (ov rfl) tA129 rfl rfl) ?_
   refine R_w _ _ rfl (w_alloc (row := [_, _, _, _, _]) 5 rfl tZ129 rfl tZ_129) ?_
   refine R_w _ _ rfl (w_store (ov rfl) (ov rfl) (cells_agg tA129 rfl) rfl rfl rfl (Nat.le_of_ble_eq_true rfl) (cell1_all rfl) rfl) ?_
   refine R_nil ?_
   refine T_keep (kc 1 rfl <| kc 5 rfl <| kc 6 rfl <| kc 7 rfl <| kc 9 rfl <| kc 10 rfl <| kc 11 rfl <| kc 12 rfl <| kc 18 rfl <| kc 19 rfl <| kc 20 rfl <| kn) rfl ?_
   refine T_seq (T_reg ?_)
   refine R_q _ rfl (v_fieldP (ov rfl) rfl rfl tF129_4) ?_
   refine R_q _ rfl (v_loadS (ov rfl) rfl rfl rfl tS127 rfl) ?_
   obtain ⟨y3, h_y3, h⟩ := bnd h
   refine R_q _ rfl (v_call (ok_clone3 h_y3) (.cons (ov rfl) (.b rfl) <| .nil)) ?_
   refine R_q _ rfl (v_fieldP (ov rfl) rfl rfl tF129_4) ?_
   refine R_w _ _ rfl (w_store (ov rfl) (ov rfl) (cells_scal tS127) rfl rfl rfl (Nat.le_of_ble_eq_true rfl) (cell1_all rfl) rfl) ?_
   refine R_nil ?_
   refine T_keep (kc 1 rfl <| kc 5 rfl <| kc 6 rfl <| kc 7 rfl <| kc 9 rfl <| kc 10 rfl <| kc 11 rfl <| kc 12 rfl <| kc 18 rfl <| kc 19 rfl <| kc 20 rfl <| kn) rfl ?_
   refine T_draw (cw := md0) (by kernel_rfl) ?_
   refine D_q0 0 _ rfl (by kernel_rfl) rfl rfl (v_fieldP (ov rfl) rfl rfl tF65_1) ?_
   refine D_q0 1 _ rfl (by kernel_rfl) rfl rfl (v_loadS (ov rfl) rfl rfl rfl tS63 rfl) ?_
   refine D_q0 2 _ rfl (by kernel_rfl) rfl rfl (v_loadA (ov rfl) rfl rfl rfl tA55 rfl rfl) ?_
   refine D_q0 3 _ rfl (by kernel_rfl) rfl rfl (v_loadA (ov rfl) rfl rfl rfl tA129 rfl rfl) ?_
   refine D_q0 4 _ rfl (by kernel_rfl) rfl rfl (v_fieldP (ov rfl) rfl rfl tF28_1) ?_
   refine D_q0 5 _ rfl (by kernel_rfl) rfl rfl (v_loadS (ov rfl) rfl rfl rfl tS3 rfl) ?_
   refine D_q0 6 _ rfl (by kernel_rfl) rfl rfl (v_move (ov rfl)) ?_
   obtain ⟨y4, h_y4, h⟩ := bnd h
   refine D_q0 7 _ rfl (by kernel_rfl) rfl rfl (v_call (ok_panel_advancedMemo h_y4) (.cons (ov rfl) (.aggB rfl) <| .cons (ov rfl) (.aggB rfl) <| .cons (ov rfl) (.b rfl) <| .cons (ov rfl) (.b rfl) <| .nil)) ?_
   refine D_q0 8 (.sl 129 (List.map R129 ([y4] : List api_Memo))) rfl (by kernel_rfl) rfl rfl (v_lit tL63 (.cons (cva (ov rfl)) rfl (pwD rfl) <| .nil) rfl rfl) ?_
   obtain ⟨l2, h_l2, h⟩ := bnd h
   refine D_one 9 _ _ rfl (by kernel_rfl) rfl rfl (fun h => by cases h) (fun h => by cases h) (w_appendG (ov rfl) (slv_sl (ov rfl) tZ_129) tL63 rfl rfl rfl (fun _ => cell1_all rfl) rfl h_l2) ?_
   refine D_q0 10 _ rfl (by kernel_rfl) rfl rfl (v_fieldP (ov rfl) rfl rfl tF65_1) ?_
   refine D_one 11 _ _ rfl (by kernel_rfl) rfl rfl (fun h => by cases h) (fun h => by cases h) (w_store (ov rfl) (ov rfl) (cells_scal tS63) rfl rfl rfl (Nat.le_of_ble_eq_true rfl) (cell1_all rfl) rfl) ?_
   refine D_done (by kernel_rfl) ?_
   refine T_keep (kc 1 rfl <| kc 5 rfl <| kc 6 rfl <| kc 7 rfl <| kc 18 rfl <| kc 19 rfl <| kc 20 rfl <| kn) rfl ?_
   refine T_reg ?_
   refine R_q _ rfl (v_add (ov rfl) (ov rfl) rfl) ?_
   refine R_q _ rfl (v_move (ov rfl)) ?_
   refine R_nil ?_
   exact ⟨(l2, (i64 (i + 1))), h, Ent.sel [some 0, some 1, some 2] (sd 1 rfl rfl <| sd 5 rfl rfl <| sr 6 rfl (.ptr _ _ _ rfl) <| sr 7 rfl (.ptr _ _ _ rfl) <| sd 18 rfl rfl <| sd 19 rfl rfl <| sd 20 rfl rfl <| sn) (.cons rfl (ro1 (by exact tZ_65.symm) (rld rfl)) <| .cons rfl (ro1 (by exact tZ_65.symm) (rlc (.dat rfl) <| rlc (.own _ rfl) <| rln)) <| .cons rfl (roM D129) <| .nil) rfl rfl⟩
  ·
   refine T_exit ?_
   rw [lx h] at ho1
   replace h := ho1
   exact ⟨Memos2, h, Ent.sel [some 0, some 1, some 2] (sr 6 rfl (.ptr _ _ _ rfl) <| sr 7 rfl (.ptr _ _ _ rfl) <| sn) (.cons rfl (ro1 (by exact tZ_65.symm) (rld rfl)) <| .cons rfl (ro1 (by exact tZ_65.symm) (rlc (.dat rfl) <| rlc (.own _ rfl) <| rln)) <| .cons rfl (roM D129) <| .nil) rfl rfl⟩
 ·
  obtain ⟨Memos, rfl⟩ : ∃ x, x = j := ⟨_, rfl⟩
  replace h := t1i h
  refine t1T ?_
  refine T_seq (T_reg ?_)
  refine R_q _ rfl (v_loadA (ov rfl) rfl rfl rfl tA65 rfl rfl) ?_
  refine R_w _ _ rfl (w_store (ov rfl) (ov rfl) (cells_agg tA65 rfl) rfl rfl rfl (Nat.le_of_ble_eq_true rfl) (cell1_all rfl) rfl) ?_
  refine R_nil ?_
  obtain rfl := rt (v := (api_PanelState.mk (i64 (s.Frame + 1)) Memos)) h
  refine T_ret (retq ?_ (.one (.agg rfl rfl rfl rfl tA65 rfl rfl (.cons (Dat.view (.b rfl)) <| .cons (View.ownM rfl rfl D129) <| .nil))))
  rfl

theorem ok_itoaL {z : Int} {r : Str} (h : itoa z = some r) : CSpec Tryz.prog gl0 128 [.int .i64 z] (.str r) :=
 ok_itoaC (g := 0) (by kernel_rfl) (by kernel_rfl) (by simp [gl0]) (fun _ h1 h2 _ ht => Any.strconv_Itoa Tryz.laysM171 _ h1 h2 _ ht) h

theorem ok_panel_digits {n : Int} {den : Int} {places : Int} {r : Str} (h : panel_digits n den places = some r) :
  CSpec Tryz.prog gl0 65 [.int .i64 n, .int .i64 den, .int .i64 places] (.str r) := by
 unfold panel_digits at h
 replace h := bnd0 h
 refine spec_of (by kernel_rfl) Tryz.func65 rfl rfl ?_
 intro w0 A
 refine T_seq (T_reg ?_)
 refine R_q _ rfl (v_assign (ov rfl)) ?_
 refine R_nil ?_
 refine T_keep (kc 0 rfl <| kc 1 rfl <| kc 2 rfl <| kn) rfl ?_
 refine T_seq (T_reg ?_)
 refine R_q _ rfl (v_move (ov rfl)) ?_
 refine R_q _ rfl (v_move (ov rfl)) ?_
 refine R_q _ rfl (v_neg (ov rfl) rfl) ?_
 refine R_q _ rfl (v_max (ov rfl) (ov rfl) rfl) ?_
 refine R_q _ rfl (v_assign (ov rfl)) ?_
 refine R_nil ?_
 refine T_keep (kc 0 rfl <| kc 1 rfl <| kc 2 rfl <| kc 7 rfl <| kn) rfl ?_
 refine T_seq (T_reg ?_)
 refine R_q _ rfl (v_move (ov rfl)) ?_
 refine R_q _ rfl (v_move (ov rfl)) ?_
 obtain ⟨q, h_q, h⟩ := bnd h
 refine R_q _ rfl (v_quoG (ov rfl) (ov rfl) h_q) ?_
 refine R_q _ rfl (v_assign (ov rfl)) ?_
 refine R_q _ rfl (v_assign (ov rfl)) ?_
 refine R_nil ?_
 refine T_joinG id (t1 fun scale => ⟨[(0, .int .i64 n), (1, .int .i64 den), (2, .int .i64 places), (7, .int .i64 (max n (i64 (-n)))), (8, .int .i64 q), (9, .int .i64 scale)], []⟩) h (fun h => ?_) (fun j h => ?_)
 ·
  refine T_keep (kc 0 rfl <| kc 1 rfl <| kc 2 rfl <| kc 7 rfl <| kc 8 rfl <| kc 9 rfl <| kn) rfl ?_
  refine T_seq (T_reg ?_)
  refine R_q _ rfl (v_move (ov rfl)) ?_
  refine R_q _ rfl (v_move (ov rfl)) ?_
  refine R_nil ?_
  refine T_block ?_
  obtain ⟨r1, hl1, ho1⟩ := bndL h
  refine T_loopG _ (t2 fun scale2 i => ⟨[(0, .int .i64 n), (1, .int .i64 den), (2, .int .i64 places), (7, .int .i64 (max n (i64 (-n)))), (8, .int .i64 q), (9, .int .i64 scale2), (19, .int .i64 places), (20, .int .i64 i)], []⟩) _ hl1 (Ent.sel [] (sd 0 rfl rfl <| sd 1 rfl rfl <| sd 2 rfl rfl <| sd 7 rfl rfl <| sd 8 rfl rfl <| sd 9 rfl rfl <| sd 19 rfl rfl <| sd 20 rfl rfl <| sn) (.nil) rfl rfl) (fun n1 s1 h => ?_)
  obtain ⟨scale2, i⟩ := s1
  replace h := t2i h
  refine t2T ?_
  unfold panel_digits_L1 at h
  refine T_seq (T_reg ?_)
  refine R_q _ rfl (v_lss (ov rfl) (ov rfl)) ?_
  refine R_nil ?_
  refine T_seq ?_
  refine T_if h rfl (fun b21 h => ?_) (fun b21 h => ?_)
  ·
   refine T_skip ?_
   refine T_seq ?_
   refine T_block ?_
   refine T_keep (kc 0 rfl <| kc 1 rfl <| kc 2 rfl <| kc 7 rfl <| kc 8 rfl <| kc 9 rfl <| kc 19 rfl <| kc 20 rfl <| kn) rfl ?_
   refine T_reg ?_
   refine R_q _ rfl (v_move (ov rfl)) ?_
   refine R_q _ rfl (v_mul (ov rfl) (ov rfl) rfl) ?_
   refine R_q _ rfl (v_assign (ov rfl)) ?_
   refine R_nil ?_
   refine T_keep (kc 0 rfl <| kc 1 rfl <| kc 2 rfl <| kc 7 rfl <| kc 8 rfl <| kc 9 rfl <| kc 19 rfl <| kc 20 rfl <| kn) rfl ?_
   refine T_reg ?_
   refine R_q _ rfl (v_add (ov rfl) (ov rfl) rfl) ?_
   refine R_q _ rfl (v_move (ov rfl)) ?_
   refine R_nil ?_
   exact ⟨((i64 (scale2 * 10)), (i64 (i + 1))), h, Ent.sel [] (sd 0 rfl rfl <| sd 1 rfl rfl <| sd 2 rfl rfl <| sd 7 rfl rfl <| sd 8 rfl rfl <| sd 9 rfl rfl <| sd 19 rfl rfl <| sd 20 rfl rfl <| sn) (.nil) rfl rfl⟩
  ·
   refine T_exit ?_
   rw [lx h] at ho1
   replace h := ho1
   exact ⟨scale2, h, Ent.sel [] (sd 0 rfl rfl <| sd 1 rfl rfl <| sd 2 rfl rfl <| sd 7 rfl rfl <| sd 8 rfl rfl <| sd 9 rfl rfl <| sn) (.nil) rfl rfl⟩
 ·
  obtain ⟨scale, rfl⟩ : ∃ x, x = j := ⟨_, rfl⟩
  replace h := t1i h
  refine t1T ?_
  refine T_seq (T_reg ?_)
  refine R_q _ rfl (v_move (ov rfl)) ?_
  refine R_q _ rfl (v_move (ov rfl)) ?_
  obtain ⟨q2, h_q2, h⟩ := bnd h
  refine R_q _ rfl (v_remG (ov rfl) (ov rfl) h_q2) ?_
  refine R_q _ rfl (v_move (ov rfl)) ?_
  refine R_q _ rfl (v_mul (ov rfl) (ov rfl) rfl) ?_
  refine R_q _ rfl (v_mul (ov rfl) (ov rfl) rfl) ?_
  refine R_q _ rfl (v_move (ov rfl)) ?_
  refine R_q _ rfl (v_add (ov rfl) (ov rfl) rfl) ?_
  refine R_q _ rfl (v_move (ov rfl)) ?_
  refine R_q _ rfl (v_mul (ov rfl) (ov rfl) rfl) ?_
  obtain ⟨q3, h_q3, h⟩ := bnd h
  refine R_q _ rfl (v_quoG (ov rfl) (ov rfl) h_q3) ?_
  refine R_q _ rfl (v_assign (ov rfl)) ?_
  refine R_nil ?_
  refine T_joinG id (t2 fun whole part => ⟨[(0, .int .i64 n), (2, .int .i64 places), (8, .int .i64 whole), (9, .int .i64 scale), (10, .int .i64 part)], []⟩) h (fun h => ?_) (fun j h => ?_)
  ·
   refine T_keep (kc 0 rfl <| kc 2 rfl <| kc 8 rfl <| kc 9 rfl <| kc 10 rfl <| kn) rfl ?_
   refine T_seq (T_reg ?_)
   refine R_q _ rfl (v_move (ov rfl)) ?_
   refine R_q _ rfl (v_move (ov rfl)) ?_
   refine R_q _ rfl (v_eql (ov rfl) (ov rfl)) ?_
   refine R_nil ?_
   refine T_keep (kc 0 rfl <| kc 2 rfl <| kc 8 rfl <| kc 9 rfl <| kc 10 rfl <| kc 38 rfl <| kn) rfl ?_
   refine T_if h rfl (fun b38 h => ?_) (fun b38 h => ?_)
   ·
    refine T_keep (kc 0 rfl <| kc 2 rfl <| kc 8 rfl <| kc 9 rfl <| kc 10 rfl <| kn) rfl ?_
    refine T_reg ?_
    refine R_q _ rfl (v_move (ov rfl)) ?_
    refine R_q _ rfl (v_add (ov rfl) (ov rfl) rfl) ?_
    refine R_q _ rfl (v_assign (ov rfl)) ?_
    refine R_q _ rfl (v_assign (ov rfl)) ?_
    refine R_nil ?_
    exact ⟨((i64 (q + 1)), 0), h, Ent.sel [] (sd 0 rfl rfl <| sd 2 rfl rfl <| sd 8 rfl rfl <| sd 9 rfl rfl <| sd 10 rfl rfl <| sn) (.nil) rfl rfl⟩
   ·
    refine T_skip ?_
    exact ⟨(q, q3), h, Ent.sel [] (sd 0 rfl rfl <| sd 2 rfl rfl <| sd 8 rfl rfl <| sd 9 rfl rfl <| sd 10 rfl rfl <| sn) (.nil) rfl rfl⟩
  ·
   obtain ⟨whole, part⟩ := j
   replace h := t2i h
   refine t2T ?_
   refine T_seq (T_reg ?_)
   refine R_q _ rfl (v_move (ov rfl)) ?_
   obtain ⟨y, h_y, h⟩ := bnd h
   refine R_q _ rfl (v_call (ok_itoaL h_y) (.cons (ov rfl) (.b rfl) <| .nil)) ?_
   refine R_q _ rfl (v_assign (ov rfl)) ?_
   refine R_nil ?_
   refine T_joinG id (t1 fun out => ⟨[(0, .int .i64 n), (8, .int .i64 whole), (10, .int .i64 part), (11, .str out)], []⟩) h (fun h => ?_) (fun j h => ?_)
   ·
    refine T_keep (kc 0 rfl <| kc 2 rfl <| kc 8 rfl <| kc 9 rfl <| kc 10 rfl <| kc 11 rfl <| kn) rfl ?_
    refine T_seq (T_reg ?_)
    refine R_q _ rfl (v_move (ov rfl)) ?_
    refine R_q _ rfl (v_gtr (ov rfl) (ov rfl)) ?_
    refine R_nil ?_
    refine T_keep (kc 0 rfl <| kc 8 rfl <| kc 9 rfl <| kc 10 rfl <| kc 11 rfl <| kc 44 rfl <| kn) rfl ?_
    refine T_if h rfl (fun b44 h => ?_) (fun b44 h => ?_)
    ·
     refine T_keep (kc 0 rfl <| kc 8 rfl <| kc 9 rfl <| kc 10 rfl <| kc 11 rfl <| kn) rfl ?_
     refine T_reg ?_
     refine R_q _ rfl (v_move (ov rfl)) ?_
     refine R_q _ rfl (v_move (ov rfl)) ?_
     refine R_q _ rfl (v_move (ov rfl)) ?_
     refine R_q _ rfl (v_add (ov rfl) (ov rfl) rfl) ?_
     obtain ⟨y2, h_y2, h⟩ := bnd h
     refine R_q _ rfl (v_call (ok_itoaL h_y2) (.cons (ov rfl) (.b rfl) <| .nil)) ?_
     obtain ⟨s, h_s, h⟩ := bnd h
     refine R_q _ rfl (v_sliceStrG (ov rfl) tStr9 (oi (ov rfl)) on h_s) ?_
     obtain ⟨s2, h_s2, h⟩ := bnd h
     refine R_q _ rfl (v_catG (ov rfl) (ov rfl) h_s2) ?_
     obtain ⟨s3, h_s3, h⟩ := bnd h
     refine R_q _ rfl (v_catG (ov rfl) (ov rfl) h_s3) ?_
     refine R_q _ rfl (v_assign (ov rfl)) ?_
     refine R_nil ?_
     exact ⟨s3, h, Ent.sel [] (sd 0 rfl rfl <| sd 8 rfl rfl <| sd 10 rfl rfl <| sd 11 rfl rfl <| sn) (.nil) rfl rfl⟩
    ·
     refine T_skip ?_
     exact ⟨y, h, Ent.sel [] (sd 0 rfl rfl <| sd 8 rfl rfl <| sd 10 rfl rfl <| sd 11 rfl rfl <| sn) (.nil) rfl rfl⟩
   ·
    obtain ⟨out, rfl⟩ : ∃ x, x = j := ⟨_, rfl⟩
    replace h := t1i h
    refine t1T ?_
    refine T_seq ?_
    refine T_seq (T_reg ?_)
    refine R_q _ rfl (v_move (ov rfl)) ?_
    refine R_q _ rfl (v_lss (ov rfl) (ov rfl)) ?_
    refine R_q _ rfl (v_move (ov rfl)) ?_
    refine R_q _ rfl (.guarded ((decide (n < 0)) == true) rfl rfl rfl rfl fun h => v_move (ov rfl)) ?_
    refine R_q _ rfl (.guarded ((decide (n < 0)) == true) rfl rfl rfl rfl fun h => v_gtr (ow rfl h) (ov rfl)) ?_
    refine R_q _ rfl (.guarded ((decide (n < 0)) == true) rfl rfl rfl rfl fun h => v_move (ow rfl h)) ?_
    refine R_q _ rfl (.guarded2 (((decide (n < 0)) == true) && ((decide (0 < whole)) == false)) rfl rfl rfl rfl fun h => v_move (ov rfl)) ?_
    refine R_q _ rfl (.guarded2 (((decide (n < 0)) == true) && ((decide (0 < whole)) == false)) rfl rfl rfl rfl fun h => v_gtr (ow rfl h) (ov rfl)) ?_
    refine R_q _ rfl (.guarded ((decide (n < 0)) == true) rfl rfl rfl rfl fun h => v_or (ow rfl h) (fun hp => ow rfl (gA h (gF hp)))) ?_
    refine R_q _ rfl (v_and (ov rfl) (fun hp => ow rfl (gT hp))) ?_
    refine R_nil ?_
    refine T_keep (kc 11 rfl <| kc 62 rfl <| kn) rfl ?_
    refine T_if h rfl (fun b62 h => ?_) (fun b62 h => ?_)
    ·
     refine T_keep (kc 11 rfl <| kn) rfl ?_
     refine T_seq (T_reg ?_)
     refine R_q _ rfl (v_move (ov rfl)) ?_
     obtain ⟨s4, h_s4, h⟩ := bnd h
     refine R_q _ rfl (v_catG (ov rfl) (ov rfl) h_s4) ?_
     refine R_q _ rfl (v_assign (ov rfl)) ?_
     refine R_nil ?_
     obtain rfl := rt (v := s4) h
     refine T_ret (retq ?_ (.one (.tmp rfl (Dat.view (.b rfl)))))
     rfl
    ·
     refine T_skip ?_
     refine T_keep (kc 11 rfl <| kn) rfl ?_
     refine T_seq (T_reg ?_)
     refine R_q _ rfl (v_move (ov rfl)) ?_
     refine R_q _ rfl (v_assign (ov rfl)) ?_
     refine R_nil ?_
     obtain rfl := rt (v := out) h
     refine T_ret (retq ?_ (.one (.tmp rfl (Dat.view (.b rfl)))))
     rfl

theorem ok_panel_needle {i : api_Instrument} {n : Int} {r : Int} (h : panel_needle i n = some r) :
  CSpec Tryz.prog gl0 83 [.agg [.int .i64 i.Kind, .str i.Name, .str i.Track, .int .i64 i.Places, .int .i64 i.Low, .int .i64 i.High, .int .i64 i.Steps, .sl 169 (List.map R169 i.Zones), .int .i64 i.Op, .int .i64 i.N, .bool i.Latch, .int .i64 i.Size], .int .i64 n] (.int .i64 r) := by
 unfold panel_needle at h
 replace h := bnd0 h
 refine spec_of (by kernel_rfl) Tryz.func83 rfl rfl ?_
 intro w0 A
 refine T_seq (T_reg ?_)
 refine R_q _ rfl (v_boxD (cva (ov rfl)) rfl tZ_55 rfl) ?_
 refine R_q _ rfl (v_assign (ov rfl)) ?_
 refine R_nil ?_
 refine T_seq ?_
 refine T_block ?_
 refine T_keep (kc 1 rfl <| kc 2 rfl <| kn) rfl ?_
 refine T_seq (T_reg ?_)
 refine R_q _ rfl (v_move (ov rfl)) ?_
 refine R_q _ rfl (v_fieldR (ov rfl) tF55_4) ?_
 refine R_q _ rfl (v_loadS_r (ov rfl) tS3 rfl) ?_
 refine R_q _ rfl (v_leq (ov rfl) (ov rfl)) ?_
 refine R_q _ rfl (v_assign (ov rfl)) ?_
 refine R_nil ?_
 refine T_keep (kc 1 rfl <| kc 2 rfl <| kc 5 rfl <| kn) rfl ?_
 refine T_if h rfl (fun b5 h => ?_) (fun b5 h => ?_)
 ·
  refine T_keep (kn) rfl ?_
  refine T_seq (T_reg ?_)
  refine R_q _ rfl (v_assign (ov rfl)) ?_
  refine R_nil ?_
  obtain rfl := rt (v := 0) h
  refine T_ret (retq ?_ (.one (.tmp rfl (Dat.view (.b rfl)))))
  rfl
 ·
  refine T_keep (kc 1 rfl <| kc 2 rfl <| kn) rfl ?_
  refine T_seq (T_reg ?_)
  refine R_q _ rfl (v_move (ov rfl)) ?_
  refine R_q _ rfl (v_fieldR (ov rfl) tF55_5) ?_
  refine R_q _ rfl (v_loadS_r (ov rfl) tS3 rfl) ?_
  refine R_q _ rfl (v_geq (ov rfl) (ov rfl)) ?_
  refine R_q _ rfl (v_assign (ov rfl)) ?_
  refine R_nil ?_
  refine T_keep (kc 1 rfl <| kc 2 rfl <| kc 10 rfl <| kn) rfl ?_
  refine T_if h rfl (fun b10 h => ?_) (fun b10 h => ?_)
  ·
   refine T_keep (kc 2 rfl <| kn) rfl ?_
   refine T_seq (T_reg ?_)
   refine R_q _ rfl (v_fieldR (ov rfl) tF55_6) ?_
   refine R_q _ rfl (v_loadS_r (ov rfl) tS3 rfl) ?_
   refine R_q _ rfl (v_assign (ov rfl)) ?_
   refine R_nil ?_
   obtain rfl := rt (v := i.Steps) h
   refine T_ret (retq ?_ (.one (.tmp rfl (Dat.view (.b rfl)))))
   rfl
  ·
   refine T_skip ?_
   refine T_keep (kc 1 rfl <| kc 2 rfl <| kn) rfl ?_
   refine T_seq (T_reg ?_)
   refine R_q _ rfl (v_move (ov rfl)) ?_
   refine R_q _ rfl (v_fieldR (ov rfl) tF55_4) ?_
   refine R_q _ rfl (v_loadS_r (ov rfl) tS3 rfl) ?_
   refine R_q _ rfl (v_sub (ov rfl) (ov rfl) rfl) ?_
   refine R_q _ rfl (v_fieldR (ov rfl) tF55_6) ?_
   refine R_q _ rfl (v_loadS_r (ov rfl) tS3 rfl) ?_
   refine R_q _ rfl (v_mul (ov rfl) (ov rfl) rfl) ?_
   refine R_q _ rfl (v_fieldR (ov rfl) tF55_5) ?_
   refine R_q _ rfl (v_loadS_r (ov rfl) tS3 rfl) ?_
   refine R_q _ rfl (v_fieldR (ov rfl) tF55_4) ?_
   refine R_q _ rfl (v_loadS_r (ov rfl) tS3 rfl) ?_
   refine R_q _ rfl (v_sub (ov rfl) (ov rfl) rfl) ?_
   obtain ⟨q, h_q, h⟩ := bnd h
   refine R_q _ rfl (v_quoG (ov rfl) (ov rfl) h_q) ?_
   refine R_q _ rfl (v_assign (ov rfl)) ?_
   refine R_nil ?_
   obtain rfl := rt (v := q) h
   refine T_ret (retq ?_ (.one (.tmp rfl (Dat.view (.b rfl)))))
   rfl

theorem ok_panel_zoneOf {i : api_Instrument} {n : Int} {r : Str} (h : panel_zoneOf i n = some r) :
  CSpec Tryz.prog gl0 86 [.agg [.int .i64 i.Kind, .str i.Name, .str i.Track, .int .i64 i.Places, .int .i64 i.Low, .int .i64 i.High, .int .i64 i.Steps, .sl 169 (List.map R169 i.Zones), .int .i64 i.Op, .int .i64 i.N, .bool i.Latch, .int .i64 i.Size], .int .i64 n] (.str r) := by
 unfold panel_zoneOf at h
 replace h := bnd0 h
 refine spec_of (by kernel_rfl) Tryz.func86 rfl rfl ?_
 intro w0 A
 refine T_seq (T_reg ?_)
 refine R_q _ rfl (v_boxD (cva (ov rfl)) rfl tZ_55 rfl) ?_
 refine R_q _ rfl (v_assign (ov rfl)) ?_
 refine R_nil ?_
 refine T_joinG (fun j => (.inr j)) (t0 ⟨[], []⟩) h (fun h => ?_) (fun j h => ?_)
 ·
  refine T_keep (kc 1 rfl <| kc 2 rfl <| kn) rfl ?_
  refine T_seq (T_reg ?_)
  refine R_q _ rfl (v_fieldR (ov rfl) tF55_7) ?_
  refine R_q _ rfl (v_loadS_r (ov rfl) tS53 rfl) ?_
  refine R_q _ rfl (v_len (slv_sl (ov rfl) tZ_169) tL53 (len_map _ _)) ?_
  refine R_q _ rfl (v_move (ov rfl)) ?_
  refine R_nil ?_
  refine T_block ?_
  obtain ⟨r1, hl1, ho1⟩ := bndL h
  refine T_loopG _ (t1 fun i2 => ⟨[(1, .int .i64 n), (8, .sl 169 (List.map R169 i.Zones)), (9, .int .i64 (i.Zones.length : Int)), (10, .int .i64 i2)], []⟩) _ hl1 (Ent.sel [] (sd 1 rfl rfl <| sd 8 rfl rfl <| sd 9 rfl rfl <| sd 10 rfl rfl <| sn) (.nil) rfl rfl) (fun n1 s1 h => ?_)
  obtain ⟨i2, rfl⟩ : ∃ x, x = s1 := ⟨_, rfl⟩
  replace h := t1i h
  refine t1T ?_
  unfold panel_zoneOf_L1 at h
  refine T_seq (T_reg ?_)
  refine R_q _ rfl (v_lss (ov rfl) (ov rfl)) ?_
  refine R_nil ?_
  refine T_seq ?_
  refine T_if h rfl (fun b11 h => ?_) (fun b11 h => ?_)
  ·
   refine T_skip ?_
   refine T_seq ?_
   refine T_block ?_
   refine T_keep (kc 1 rfl <| kc 8 rfl <| kc 9 rfl <| kc 10 rfl <| kn) rfl ?_
   refine T_seq (T_reg ?_)
   obtain ⟨x, h_x, h⟩ := bnd h
   refine R_q _ rfl (v_ixSG (ov rfl) (ov rfl) tL53 h_x) ?_
   refine R_q _ rfl (v_loadA_r (ov rfl) tA169 rfl rfl) ?_
   refine R_w _ _ rfl (w_alloc (row := [_, _, _]) 0 rfl tZ169 rfl tZ_169) ?_
   refine R_w _ _ rfl (w_store (ov rfl) (ov rfl) (cells_agg tA169 rfl) rfl rfl rfl (Nat.le_of_ble_eq_true rfl) (cell1_all rfl) rfl) ?_
   refine R_nil ?_
   refine T_keep (kc 1 rfl <| kc 6 rfl <| kc 8 rfl <| kc 9 rfl <| kc 10 rfl <| kn) rfl ?_
   refine T_seq (T_reg ?_)
   refine R_q _ rfl (v_move (ov rfl)) ?_
   refine R_q _ rfl (v_fieldP (ov rfl) rfl rfl tF169_0) ?_
   refine R_q _ rfl (v_loadS (ov rfl) rfl rfl rfl tS3 rfl) ?_
   refine R_q _ rfl (v_fieldP (ov rfl) rfl rfl tF169_1) ?_
   refine R_q _ rfl (v_loadS (ov rfl) rfl rfl rfl tS3 rfl) ?_
   obtain ⟨y, h_y, h⟩ := bnd h
   refine R_q _ rfl (v_call (ok_panel_within h_y) (.cons (ov rfl) (.b rfl) <| .cons (ov rfl) (.b rfl) <| .cons (ov rfl) (.b rfl) <| .nil)) ?_
   refine R_nil ?_
   refine T_keep (kc 1 rfl <| kc 6 rfl <| kc 8 rfl <| kc 9 rfl <| kc 10 rfl <| kc 19 rfl <| kn) rfl ?_
   refine T_if h rfl (fun b19 h => ?_) (fun b19 h => ?_)
   ·
    refine T_keep (kc 6 rfl <| kn) rfl ?_
    refine T_seq (T_reg ?_)
    refine R_q _ rfl (v_fieldP (ov rfl) rfl rfl tF169_2) ?_
    refine R_q _ rfl (v_loadS (ov rfl) rfl rfl rfl tS9 rfl) ?_
    refine R_q _ rfl (v_assign (ov rfl)) ?_
    refine R_nil ?_
    rw [lx h] at ho1
    replace h := ho1
    obtain rfl := rt (v := x.Name) h
    refine T_ret (retq ?_ (.one (.tmp rfl (Dat.view (.b rfl)))))
    rfl
   ·
    refine T_skip ?_
    refine T_keep (kc 1 rfl <| kc 8 rfl <| kc 9 rfl <| kc 10 rfl <| kn) rfl ?_
    refine T_reg ?_
    refine R_q _ rfl (v_add (ov rfl) (ov rfl) rfl) ?_
    refine R_q _ rfl (v_move (ov rfl)) ?_
    refine R_nil ?_
    exact ⟨(i64 (i2 + 1)), h, Ent.sel [] (sd 1 rfl rfl <| sd 8 rfl rfl <| sd 9 rfl rfl <| sd 10 rfl rfl <| sn) (.nil) rfl rfl⟩
  ·
   refine T_exit ?_
   rw [lx h] at ho1
   replace h := ho1
   exact ⟨(), h, Ent.sel [] (sn) (.nil) rfl rfl⟩
 ·
  replace h := elr h
  cases j
  replace h := t0i h
  refine t0T ?_
  refine T_seq (T_reg ?_)
  refine R_q _ rfl (v_assign (ov rfl)) ?_
  refine R_nil ?_
  obtain rfl := rt (v := []) h
  refine T_ret (retq ?_ (.one (.tmp rfl (Dat.view (.b rfl)))))
  rfl

theorem ok_joinL {l : List Str} {sep r : Str} (h : sjoin l sep = some r) : CSpec Tryz.prog gl0 165 [.sl 9 (l.map R9), .str sep] (.str r) :=
 ok_joinC (by kernel_rfl) (by kernel_rfl) (fun a c sep w => Any.strings_Join_none Tryz.lays156 Tryz.Builder_Extra_156 a c sep w) (fun bk o c xs sep w => Any.strings_Join Tryz.lays156 Tryz.Builder_Extra_156 bk o c xs sep w) h

theorem ok_panel_face {i : api_Instrument} {m : api_Memo} {den : Int} {x : api_Sample} {known : Bool} {r : api_Face} (h : panel_face i m den x known = some r) :
  CSpec Tryz.prog gl0 132 [.agg [.int .i64 i.Kind, .str i.Name, .str i.Track, .int .i64 i.Places, .int .i64 i.Low, .int .i64 i.High, .int .i64 i.Steps, .sl 169 (List.map R169 i.Zones), .int .i64 i.Op, .int .i64 i.N, .bool i.Latch, .int .i64 i.Size], .agg [.bool m.Lit, .bool m.Some, .int .i64 m.N, .int .i64 m.Count, .sl 3 (List.map R3 m.Tape)], .int .i64 den, .agg [.int .i64 x.At, .int .i64 x.N, .int .i64 x.Mark], .bool known] (.agg [.str r.Text, .int .i64 r.Needle, .bool r.Lit, .int .i64 r.Mark]) := by
 unfold panel_face at h
 replace h := bnd0 h
 refine spec_of (by kernel_rfl) Tryz.func132 rfl rfl ?_
 intro w0 A
 refine T_seq (T_reg ?_)
 refine R_q _ rfl (v_boxD (cva (ov rfl)) rfl tZ_55 rfl) ?_
 refine R_q _ rfl (v_boxD (cva (ov rfl)) rfl tZ_129 rfl) ?_
 refine R_q _ rfl (v_boxD (cva (ov rfl)) rfl tZ_28 rfl) ?_
 refine R_w _ _ rfl (w_alloc (row := [_, _, _, _]) 0 rfl tZ57 rfl tZ_57) ?_
 refine R_nil ?_
 refine T_keep (kc 2 rfl <| kc 4 rfl <| kc 5 rfl <| kc 6 rfl <| kc 8 rfl <| kc 10 rfl <| kn) rfl ?_
 refine T_seq (T_reg ?_)
 refine R_q _ rfl (v_fieldR (ov rfl) tF28_2) ?_
 refine R_q _ rfl (v_loadS_r (ov rfl) tS3 rfl) ?_
 refine R_q _ rfl (v_fieldR (ov rfl) tF129_0) ?_
 refine R_q _ rfl (v_loadS_r (ov rfl) tS4 rfl) ?_
 refine R_q _ rfl (v_build (ys := [_, _, _, _]) tPL57 tHA57 tZ57 (.cons (cvs (ov rfl) (cell1_b rfl)) <| .cons (cvs (ov rfl) (cell1_b rfl)) <| .cons (cvs (ov rfl) (cell1_b rfl)) <| .nil) rfl) ?_
 refine R_w _ _ rfl (w_alloc (row := [_, _, _, _]) 1 rfl tZ57 rfl tZ_57) ?_
 refine R_w _ _ rfl (w_store (ov rfl) (ov rfl) (cells_agg tA57 rfl) rfl rfl rfl (Nat.le_of_ble_eq_true rfl) (cell1_all rfl) rfl) ?_
 refine R_nil ?_
 refine T_joinG id (t1 fun out => ⟨[(10, .ptr 0 1 0 0), (11, .ptr 1 1 0 0)], [some ⟨57, [[.str [], .int .i64 0, .bool false, .int .i64 0]]⟩, some ⟨57, [[.str out.Text, .int .i64 out.Needle, .bool out.Lit, .int .i64 out.Mark]]⟩]⟩) h (fun h => ?_) (fun j h => ?_)
 ·
  refine T_keep (kc 2 rfl <| kc 4 rfl <| kc 5 rfl <| kc 6 rfl <| kc 8 rfl <| kc 10 rfl <| kc 11 rfl <| kn) rfl ?_
  refine T_seq (T_reg ?_)
  refine R_q _ rfl (v_fieldR (ov rfl) tF55_0) ?_
  refine R_q _ rfl (v_loadS_r (ov rfl) tS3 rfl) ?_
  refine R_nil ?_
  refine T_block ?_
  refine T_keep (kc 2 rfl <| kc 4 rfl <| kc 5 rfl <| kc 6 rfl <| kc 8 rfl <| kc 10 rfl <| kc 11 rfl <| kc 21 rfl <| kn) rfl ?_
  refine T_seq (T_reg ?_)
  refine R_q _ rfl (v_eql (ov rfl) (ov rfl)) ?_
  refine R_q _ rfl (v_assign (ov rfl)) ?_
  refine R_nil ?_
  refine T_keep (kc 2 rfl <| kc 4 rfl <| kc 5 rfl <| kc 6 rfl <| kc 8 rfl <| kc 10 rfl <| kc 11 rfl <| kc 21 rfl <| kc 22 rfl <| kn) rfl ?_
  refine T_if h rfl (fun b22 h => ?_) (fun b22 h => ?_)
  ·
   refine T_keep (kc 2 rfl <| kc 4 rfl <| kc 5 rfl <| kc 8 rfl <| kc 10 rfl <| kc 11 rfl <| kn) rfl ?_
   refine T_seq (T_reg ?_)
   refine R_q _ rfl (v_move (ov rfl)) ?_
   refine R_nil ?_
   refine T_keep (kc 2 rfl <| kc 5 rfl <| kc 8 rfl <| kc 10 rfl <| kc 11 rfl <| kc 24 rfl <| kn) rfl ?_
   refine T_if h rfl (fun b24 h => ?_) (fun b24 h => ?_)
   ·
    refine T_keep (kc 2 rfl <| kc 5 rfl <| kc 8 rfl <| kc 10 rfl <| kc 11 rfl <| kn) rfl ?_
    refine T_reg ?_
    refine R_q _ rfl (v_fieldR (ov rfl) tF28_1) ?_
    refine R_q _ rfl (v_loadS_r (ov rfl) tS3 rfl) ?_
    refine R_q _ rfl (v_move (ov rfl)) ?_
    refine R_q _ rfl (v_fieldR (ov rfl) tF55_3) ?_
    refine R_q _ rfl (v_loadS_r (ov rfl) tS3 rfl) ?_
    obtain ⟨y, h_y, h⟩ := bnd h
    refine R_q _ rfl (v_call (ok_panel_digits h_y) (.cons (ov rfl) (.b rfl) <| .cons (ov rfl) (.b rfl) <| .cons (ov rfl) (.b rfl) <| .nil)) ?_
    refine R_q _ rfl (v_fieldP (ov rfl) rfl rfl tF57_0) ?_
    refine R_w _ _ rfl (w_store (ov rfl) (ov rfl) (cells_scal tS9) rfl rfl rfl (Nat.le_of_ble_eq_true rfl) (cell1_all rfl) rfl) ?_
    refine R_nil ?_
    exact ⟨(api_Face.mk y 0 m.Lit x.Mark), h, Ent.sel [some 0, some 1] (sr 10 rfl (.ptr _ _ _ rfl) <| sr 11 rfl (.ptr _ _ _ rfl) <| sn) (.cons rfl (ro1 (by exact tZ_57.symm) (rld rfl)) <| .cons rfl (ro1 (by exact tZ_57.symm) (rld rfl)) <| .nil) rfl rfl⟩
   ·
    refine T_skip ?_
    exact ⟨(api_Face.mk [45, 45, 45] 0 m.Lit x.Mark), h, Ent.sel [some 0, some 1] (sr 10 rfl (.ptr _ _ _ rfl) <| sr 11 rfl (.ptr _ _ _ rfl) <| sn) (.cons rfl (ro1 (by exact tZ_57.symm) (rld rfl)) <| .cons rfl (ro1 (by exact tZ_57.symm) (rld rfl)) <| .nil) rfl rfl⟩
  ·
   refine T_keep (kc 2 rfl <| kc 4 rfl <| kc 5 rfl <| kc 6 rfl <| kc 8 rfl <| kc 10 rfl <| kc 11 rfl <| kc 21 rfl <| kn) rfl ?_
   refine T_seq (T_reg ?_)
   refine R_q _ rfl (v_eql (ov rfl) (ov rfl)) ?_
   refine R_q _ rfl (v_assign (ov rfl)) ?_
   refine R_nil ?_
   refine T_keep (kc 2 rfl <| kc 4 rfl <| kc 5 rfl <| kc 6 rfl <| kc 8 rfl <| kc 10 rfl <| kc 11 rfl <| kc 21 rfl <| kc 32 rfl <| kn) rfl ?_
   refine T_if h rfl (fun b32 h => ?_) (fun b32 h => ?_)
   ·
    refine T_keep (kc 4 rfl <| kc 5 rfl <| kc 8 rfl <| kc 10 rfl <| kc 11 rfl <| kn) rfl ?_
    refine T_seq (T_reg ?_)
    refine R_q _ rfl (v_move (ov rfl)) ?_
    refine R_nil ?_
    refine T_keep (kc 5 rfl <| kc 8 rfl <| kc 10 rfl <| kc 11 rfl <| kc 34 rfl <| kn) rfl ?_
    refine T_if h rfl (fun b34 h => ?_) (fun b34 h => ?_)
    ·
     refine T_keep (kc 5 rfl <| kc 8 rfl <| kc 10 rfl <| kc 11 rfl <| kn) rfl ?_
     refine T_draw (cw := md0) (by kernel_rfl) ?_
     refine D_q0 0 _ rfl (by kernel_rfl) rfl rfl (v_loadA_r (ov rfl) tA55 rfl rfl) ?_
     refine D_q0 1 _ rfl (by kernel_rfl) rfl rfl (v_fieldR (ov rfl) tF28_1) ?_
     refine D_q0 2 _ rfl (by kernel_rfl) rfl rfl (v_loadS_r (ov rfl) tS3 rfl) ?_
     obtain ⟨y2, h_y2, h⟩ := bnd h
     refine D_q0 3 _ rfl (by kernel_rfl) rfl rfl (v_call (ok_panel_needle h_y2) (.cons (ov rfl) (.aggB rfl) <| .cons (ov rfl) (.b rfl) <| .nil)) ?_
     refine D_q0 4 _ rfl (by kernel_rfl) rfl rfl (v_loadA_r (ov rfl) tA55 rfl rfl) ?_
     refine D_q0 5 _ rfl (by kernel_rfl) rfl rfl (v_fieldR (ov rfl) tF28_1) ?_
     refine D_q0 6 _ rfl (by kernel_rfl) rfl rfl (v_loadS_r (ov rfl) tS3 rfl) ?_
     obtain ⟨y3, h_y3, h⟩ := bnd h
     refine D_q0 7 _ rfl (by kernel_rfl) rfl rfl (v_call (ok_panel_zoneOf h_y3) (.cons (ov rfl) (.aggB rfl) <| .cons (ov rfl) (.b rfl) <| .nil)) ?_
     refine D_q0 8 _ rfl (by kernel_rfl) rfl rfl (v_fieldP (ov rfl) rfl rfl tF57_1) ?_
     refine D_one 9 _ _ rfl (by kernel_rfl) rfl rfl (fun h => by cases h) (fun h => by cases h) (w_store (ov rfl) (ov rfl) (cells_scal tS3) rfl rfl rfl (Nat.le_of_ble_eq_true rfl) (cell1_all rfl) rfl) ?_
     refine D_q0 10 _ rfl (by kernel_rfl) rfl rfl (v_fieldP (ov rfl) rfl rfl tF57_0) ?_
     refine D_one 11 _ _ rfl (by kernel_rfl) rfl rfl (fun h => by cases h) (fun h => by cases h) (w_store (ov rfl) (ov rfl) (cells_scal tS9) rfl rfl rfl (Nat.le_of_ble_eq_true rfl) (cell1_all rfl) rfl) ?_
     refine D_done (by kernel_rfl) ?_
     exact ⟨(api_Face.mk y3 y2 m.Lit x.Mark), h, Ent.sel [some 0, some 1] (sr 10 rfl (.ptr _ _ _ rfl) <| sr 11 rfl (.ptr _ _ _ rfl) <| sn) (.cons rfl (ro1 (by exact tZ_57.symm) (rld rfl)) <| .cons rfl (ro1 (by exact tZ_57.symm) (rld rfl)) <| .nil) rfl rfl⟩
    ·
     refine T_skip ?_
     exact ⟨(api_Face.mk [45, 45, 45] 0 m.Lit x.Mark), h, Ent.sel [some 0, some 1] (sr 10 rfl (.ptr _ _ _ rfl) <| sr 11 rfl (.ptr _ _ _ rfl) <| sn) (.cons rfl (ro1 (by exact tZ_57.symm) (rld rfl)) <| .cons rfl (ro1 (by exact tZ_57.symm) (rld rfl)) <| .nil) rfl rfl⟩
   ·
    refine T_keep (kc 2 rfl <| kc 4 rfl <| kc 5 rfl <| kc 6 rfl <| kc 10 rfl <| kc 11 rfl <| kc 21 rfl <| kn) rfl ?_
    refine T_seq (T_reg ?_)
    refine R_q _ rfl (v_eql (ov rfl) (ov rfl)) ?_
    refine R_q _ rfl (v_assign (ov rfl)) ?_
    refine R_nil ?_
    refine T_keep (kc 2 rfl <| kc 4 rfl <| kc 5 rfl <| kc 6 rfl <| kc 10 rfl <| kc 11 rfl <| kc 21 rfl <| kc 45 rfl <| kn) rfl ?_
    refine T_if h rfl (fun b45 h => ?_) (fun b45 h => ?_)
    ·
     refine T_keep (kc 4 rfl <| kc 6 rfl <| kc 10 rfl <| kc 11 rfl <| kn) rfl ?_
     refine T_seq (T_reg ?_)
     refine R_q _ rfl (v_fieldR (ov rfl) tF129_0) ?_
     refine R_q _ rfl (v_loadS_r (ov rfl) tS4 rfl) ?_
     refine R_nil ?_
     refine T_keep (kc 4 rfl <| kc 10 rfl <| kc 11 rfl <| kc 48 rfl <| kn) rfl ?_
     refine T_if h rfl (fun b48 h => ?_) (fun b48 h => ?_)
     ·
      refine T_keep (kc 10 rfl <| kc 11 rfl <| kn) rfl ?_
      refine T_reg ?_
      refine R_q _ rfl (v_fieldP (ov rfl) rfl rfl tF57_0) ?_
      refine R_w _ _ rfl (w_store (ov rfl) (ov rfl) (cells_scal tS9) rfl rfl rfl (Nat.le_of_ble_eq_true rfl) (cell1_all rfl) rfl) ?_
      refine R_nil ?_
      exact ⟨(api_Face.mk [111, 110] 0 m.Lit x.Mark), h, Ent.sel [some 0, some 1] (sr 10 rfl (.ptr _ _ _ rfl) <| sr 11 rfl (.ptr _ _ _ rfl) <| sn) (.cons rfl (ro1 (by exact tZ_57.symm) (rld rfl)) <| .cons rfl (ro1 (by exact tZ_57.symm) (rld rfl)) <| .nil) rfl rfl⟩
     ·
      refine T_keep (kc 4 rfl <| kc 10 rfl <| kc 11 rfl <| kn) rfl ?_
      refine T_seq (T_reg ?_)
      refine R_q _ rfl (v_move (ov rfl)) ?_
      refine R_nil ?_
      refine T_keep (kc 10 rfl <| kc 11 rfl <| kc 50 rfl <| kn) rfl ?_
      refine T_if h rfl (fun b50 h => ?_) (fun b50 h => ?_)
      ·
       refine T_keep (kc 10 rfl <| kc 11 rfl <| kn) rfl ?_
       refine T_reg ?_
       refine R_q _ rfl (v_fieldP (ov rfl) rfl rfl tF57_0) ?_
       refine R_w _ _ rfl (w_store (ov rfl) (ov rfl) (cells_scal tS9) rfl rfl rfl (Nat.le_of_ble_eq_true rfl) (cell1_all rfl) rfl) ?_
       refine R_nil ?_
       exact ⟨(api_Face.mk [111, 102, 102] 0 m.Lit x.Mark), h, Ent.sel [some 0, some 1] (sr 10 rfl (.ptr _ _ _ rfl) <| sr 11 rfl (.ptr _ _ _ rfl) <| sn) (.cons rfl (ro1 (by exact tZ_57.symm) (rld rfl)) <| .cons rfl (ro1 (by exact tZ_57.symm) (rld rfl)) <| .nil) rfl rfl⟩
      ·
       refine T_skip ?_
       exact ⟨(api_Face.mk [45, 45, 45] 0 m.Lit x.Mark), h, Ent.sel [some 0, some 1] (sr 10 rfl (.ptr _ _ _ rfl) <| sr 11 rfl (.ptr _ _ _ rfl) <| sn) (.cons rfl (ro1 (by exact tZ_57.symm) (rld rfl)) <| .cons rfl (ro1 (by exact tZ_57.symm) (rld rfl)) <| .nil) rfl rfl⟩
    ·
     refine T_keep (kc 2 rfl <| kc 5 rfl <| kc 6 rfl <| kc 10 rfl <| kc 11 rfl <| kc 21 rfl <| kn) rfl ?_
     refine T_seq (T_reg ?_)
     refine R_q _ rfl (v_eql (ov rfl) (ov rfl)) ?_
     refine R_q _ rfl (v_assign (ov rfl)) ?_
     refine R_nil ?_
     refine T_keep (kc 2 rfl <| kc 5 rfl <| kc 6 rfl <| kc 10 rfl <| kc 11 rfl <| kc 21 rfl <| kc 52 rfl <| kn) rfl ?_
     refine T_if h rfl (fun b52 h => ?_) (fun b52 h => ?_)
     ·
      refine T_keep (kc 2 rfl <| kc 5 rfl <| kc 6 rfl <| kc 10 rfl <| kc 11 rfl <| kn) rfl ?_
      refine T_seq (T_reg ?_)
      refine R_q _ rfl (v_fieldR (ov rfl) tF129_1) ?_
      refine R_q _ rfl (v_loadS_r (ov rfl) tS4 rfl) ?_
      refine R_nil ?_
      refine T_keep (kc 2 rfl <| kc 5 rfl <| kc 6 rfl <| kc 10 rfl <| kc 11 rfl <| kc 55 rfl <| kn) rfl ?_
      refine T_if h rfl (fun b55 h => ?_) (fun b55 h => ?_)
      ·
       refine T_keep (kc 2 rfl <| kc 5 rfl <| kc 6 rfl <| kc 10 rfl <| kc 11 rfl <| kn) rfl ?_
       refine T_reg ?_
       refine R_q _ rfl (v_fieldR (ov rfl) tF129_2) ?_
       refine R_q _ rfl (v_loadS_r (ov rfl) tS3 rfl) ?_
       refine R_q _ rfl (v_move (ov rfl)) ?_
       refine R_q _ rfl (v_fieldR (ov rfl) tF55_3) ?_
       refine R_q _ rfl (v_loadS_r (ov rfl) tS3 rfl) ?_
       obtain ⟨y4, h_y4, h⟩ := bnd h
       refine R_q _ rfl (v_call (ok_panel_digits h_y4) (.cons (ov rfl) (.b rfl) <| .cons (ov rfl) (.b rfl) <| .cons (ov rfl) (.b rfl) <| .nil)) ?_
       refine R_q _ rfl (v_fieldP (ov rfl) rfl rfl tF57_0) ?_
       refine R_w _ _ rfl (w_store (ov rfl) (ov rfl) (cells_scal tS9) rfl rfl rfl (Nat.le_of_ble_eq_true rfl) (cell1_all rfl) rfl) ?_
       refine R_nil ?_
       exact ⟨(api_Face.mk y4 0 m.Lit x.Mark), h, Ent.sel [some 0, some 1] (sr 10 rfl (.ptr _ _ _ rfl) <| sr 11 rfl (.ptr _ _ _ rfl) <| sn) (.cons rfl (ro1 (by exact tZ_57.symm) (rld rfl)) <| .cons rfl (ro1 (by exact tZ_57.symm) (rld rfl)) <| .nil) rfl rfl⟩
      ·
       refine T_skip ?_
       exact ⟨(api_Face.mk [45, 45, 45] 0 m.Lit x.Mark), h, Ent.sel [some 0, some 1] (sr 10 rfl (.ptr _ _ _ rfl) <| sr 11 rfl (.ptr _ _ _ rfl) <| sn) (.cons rfl (ro1 (by exact tZ_57.symm) (rld rfl)) <| .cons rfl (ro1 (by exact tZ_57.symm) (rld rfl)) <| .nil) rfl rfl⟩
     ·
      refine T_keep (kc 2 rfl <| kc 5 rfl <| kc 6 rfl <| kc 10 rfl <| kc 11 rfl <| kc 21 rfl <| kn) rfl ?_
      refine T_seq (T_reg ?_)
      refine R_q _ rfl (v_eql (ov rfl) (ov rfl)) ?_
      refine R_q _ rfl (v_assign (ov rfl)) ?_
      refine R_nil ?_
      refine T_keep (kc 2 rfl <| kc 5 rfl <| kc 6 rfl <| kc 10 rfl <| kc 11 rfl <| kc 21 rfl <| kc 63 rfl <| kn) rfl ?_
      refine T_if h rfl (fun b63 h => ?_) (fun b63 h => ?_)
      ·
       refine T_keep (kc 6 rfl <| kc 10 rfl <| kc 11 rfl <| kn) rfl ?_
       refine T_reg ?_
       refine R_q _ rfl (v_fieldR (ov rfl) tF129_3) ?_
       refine R_q _ rfl (v_loadS_r (ov rfl) tS3 rfl) ?_
       obtain ⟨y5, h_y5, h⟩ := bnd h
       refine R_q _ rfl (v_call (ok_itoaL h_y5) (.cons (ov rfl) (.b rfl) <| .nil)) ?_
       refine R_q _ rfl (v_fieldP (ov rfl) rfl rfl tF57_0) ?_
       refine R_w _ _ rfl (w_store (ov rfl) (ov rfl) (cells_scal tS9) rfl rfl rfl (Nat.le_of_ble_eq_true rfl) (cell1_all rfl) rfl) ?_
       refine R_nil ?_
       exact ⟨(api_Face.mk y5 0 m.Lit x.Mark), h, Ent.sel [some 0, some 1] (sr 10 rfl (.ptr _ _ _ rfl) <| sr 11 rfl (.ptr _ _ _ rfl) <| sn) (.cons rfl (ro1 (by exact tZ_57.symm) (rld rfl)) <| .cons rfl (ro1 (by exact tZ_57.symm) (rld rfl)) <| .nil) rfl rfl⟩
      ·
       refine T_keep (kc 2 rfl <| kc 5 rfl <| kc 6 rfl <| kc 10 rfl <| kc 11 rfl <| kc 21 rfl <| kn) rfl ?_
       refine T_seq (T_reg ?_)
       refine R_q _ rfl (v_eql (ov rfl) (ov rfl)) ?_
       refine R_q _ rfl (v_assign (ov rfl)) ?_
       refine R_nil ?_
       refine T_keep (kc 2 rfl <| kc 5 rfl <| kc 6 rfl <| kc 10 rfl <| kc 11 rfl <| kc 69 rfl <| kn) rfl ?_
       refine T_if h rfl (fun b69 h => ?_) (fun b69 h => ?_)
       ·
        refine T_keep (kc 2 rfl <| kc 5 rfl <| kc 6 rfl <| kc 10 rfl <| kc 11 rfl <| kn) rfl ?_
        refine T_seq (T_reg ?_)
        refine R_q _ rfl (v_assign (ov rfl)) ?_
        refine R_nil ?_
        refine T_joinG id (t1 fun l => ⟨[(10, .ptr 0 1 0 0), (11, .ptr 1 1 0 0), (12, .own 2 l.length)], [some ⟨57, [[.str [], .int .i64 0, .bool false, .int .i64 0]]⟩, some ⟨57, [[.str [45, 45, 45], .int .i64 0, .bool m.Lit, .int .i64 x.Mark]]⟩, some ⟨9, List.map R9 l⟩]⟩) h (fun h => ?_) (fun j h => ?_)
        ·
         refine T_seq (T_reg ?_)
         refine R_q _ rfl (v_fieldR (ov rfl) tF129_4) ?_
         refine R_q _ rfl (v_loadS_r (ov rfl) tS127 rfl) ?_
         refine R_q _ rfl (v_len (slv_sl (ov rfl) tZ_3) tL127 (len_map _ _)) ?_
         refine R_q _ rfl (v_move (ov rfl)) ?_
         refine R_nil ?_
         refine T_block ?_
         obtain ⟨r1, hl1, ho1⟩ := bndL h
         refine T_loopG _ (t2 fun l2 i2 => ⟨[(2, .int .i64 den), (5, .rp [.int .i64 i.Kind, .str i.Name, .str i.Track, .int .i64 i.Places, .int .i64 i.Low, .int .i64 i.High, .int .i64 i.Steps, .sl 169 (List.map R169 i.Zones), .int .i64 i.Op, .int .i64 i.N, .bool i.Latch, .int .i64 i.Size] 0), (10, .ptr 0 1 0 0), (11, .ptr 1 1 0 0), (12, .own 2 l2.length), (72, .sl 3 (List.map R3 m.Tape)), (73, .int .i64 (m.Tape.length : Int)), (74, .int .i64 i2)], [some ⟨57, [[.str [], .int .i64 0, .bool false, .int .i64 0]]⟩, some ⟨57, [[.str [45, 45, 45], .int .i64 0, .bool m.Lit, .int .i64 x.Mark]]⟩, some ⟨9, List.map R9 l2⟩]⟩) _ hl1 (Ent.sel [some 0, some 1, none] (sd 2 rfl rfl <| sd 5 rfl rfl <| sr 10 rfl (.ptr _ _ _ rfl) <| sr 11 rfl (.ptr _ _ _ rfl) <| sr 12 rfl (.row rfl) <| sd 72 rfl rfl <| sd 73 rfl rfl <| sd 74 rfl rfl <| sn) (.cons rfl (ro1 (by exact tZ_57.symm) (rld rfl)) <| .cons rfl (ro1 (by exact tZ_57.symm) (rld rfl)) <| .row 9 <| .nil) rfl rfl) (fun n1 s1 h => ?_)
         obtain ⟨l2, i2⟩ := s1
         replace h := t2i h
         refine t2T ?_
         unfold panel_face_L1 at h
         refine T_seq (T_reg ?_)
         refine R_q _ rfl (v_lss (ov rfl) (ov rfl)) ?_
         refine R_nil ?_
         refine T_seq ?_
         refine T_if h rfl (fun b75 h => ?_) (fun b75 h => ?_)
         ·
          refine T_skip ?_
          refine T_seq ?_
          refine T_block ?_
          refine T_keep (kc 2 rfl <| kc 5 rfl <| kc 10 rfl <| kc 11 rfl <| kc 12 rfl <| kc 72 rfl <| kc 73 rfl <| kc 74 rfl <| kn) rfl ?_
          refine T_seq (T_reg ?_)
          obtain ⟨x2, h_x2, h⟩ := bnd h
          refine R_q _ rfl (v_ixSG (ov rfl) (ov rfl) tL127 h_x2) ?_
          refine R_q _ rfl (v_loadS_r (ov rfl) tS3 rfl) ?_
          refine R_q _ rfl (v_assign (ov rfl)) ?_
          refine R_nil ?_
          refine T_keep (kc 2 rfl <| kc 5 rfl <| kc 10 rfl <| kc 11 rfl <| kc 12 rfl <| kc 14 rfl <| kc 72 rfl <| kc 73 rfl <| kc 74 rfl <| kn) rfl ?_
          refine T_reg ?_
          refine R_q _ rfl (v_move (ov rfl)) ?_
          refine R_q _ rfl (v_move (ov rfl)) ?_
          refine R_q _ rfl (v_move (ov rfl)) ?_
          refine R_q _ rfl (v_fieldR (ov rfl) tF55_3) ?_
          refine R_q _ rfl (v_loadS_r (ov rfl) tS3 rfl) ?_
          obtain ⟨y6, h_y6, h⟩ := bnd h
          refine R_q _ rfl (v_call (ok_panel_digits h_y6) (.cons (ov rfl) (.b rfl) <| .cons (ov rfl) (.b rfl) <| .cons (ov rfl) (.b rfl) <| .nil)) ?_
          refine R_q (.sl 9 (List.map R9 ([y6] : List Str))) rfl (v_lit tL187 (.cons (cvs (ov rfl) (cell1_b rfl)) rfl (.cons (.b rfl) .nil) <| .nil) rfl rfl) ?_
          obtain ⟨l3, h_l3, h⟩ := bnd h
          refine R_w _ _ rfl (w_appendG (ov rfl) (slv_sl (ov rfl) tZ_9) tL187 rfl rfl rfl (fun _ => cell1_all rfl) rfl h_l3) ?_
          refine R_q _ rfl (v_assign (ov rfl)) ?_
          refine R_nil ?_
          refine T_keep (kc 2 rfl <| kc 5 rfl <| kc 10 rfl <| kc 11 rfl <| kc 12 rfl <| kc 72 rfl <| kc 73 rfl <| kc 74 rfl <| kn) rfl ?_
          refine T_reg ?_
          refine R_q _ rfl (v_add (ov rfl) (ov rfl) rfl) ?_
          refine R_q _ rfl (v_move (ov rfl)) ?_
          refine R_nil ?_
          exact ⟨(l3, (i64 (i2 + 1))), h, Ent.sel [some 0, some 1, some 2] (sd 2 rfl rfl <| sd 5 rfl rfl <| sr 10 rfl (.ptr _ _ _ rfl) <| sr 11 rfl (.ptr _ _ _ rfl) <| sr 12 rfl (.own _ rfl) <| sd 72 rfl rfl <| sd 73 rfl rfl <| sd 74 rfl rfl <| sn) (.cons rfl (ro1 (by exact tZ_57.symm) (rld rfl)) <| .cons rfl (ro1 (by exact tZ_57.symm) (rld rfl)) <| .cons rfl (roM D9) <| .nil) rfl rfl⟩
         ·
          refine T_exit ?_
          rw [lx h] at ho1
          replace h := ho1
          exact ⟨l2, h, Ent.sel [some 0, some 1, some 2] (sr 10 rfl (.ptr _ _ _ rfl) <| sr 11 rfl (.ptr _ _ _ rfl) <| sr 12 rfl (.own _ rfl) <| sn) (.cons rfl (ro1 (by exact tZ_57.symm) (rld rfl)) <| .cons rfl (ro1 (by exact tZ_57.symm) (rld rfl)) <| .cons rfl (roM D9) <| .nil) rfl rfl⟩
        ·
         obtain ⟨l, rfl⟩ : ∃ x, x = j := ⟨_, rfl⟩
         replace h := t1i h
         refine t1T ?_
         refine T_seq (T_reg ?_)
         refine R_q _ rfl (v_move (ov rfl)) ?_
         refine R_q _ rfl (v_lenO (ov rfl) rfl rfl tL187) ?_
         refine R_q _ rfl (v_gtr (ov rfl) (ov rfl)) ?_
         refine R_nil ?_
         refine T_keep (kc 10 rfl <| kc 11 rfl <| kc 12 rfl <| kc 89 rfl <| kn) rfl ?_
         refine T_if h rfl (fun b89 h => ?_) (fun b89 h => ?_)
         ·
          refine T_keep (kc 10 rfl <| kc 11 rfl <| kc 12 rfl <| kn) rfl ?_
          refine T_reg ?_
          refine R_q _ rfl (v_move (ov rfl)) ?_
          obtain ⟨y7, h_y7, h⟩ := bnd h
          refine R_q _ rfl (v_callB (ok_joinL h_y7) .str (.cons (ov rfl) (View.ownM rfl rfl D9) <| .cons (ov rfl) (Dat.view (.b rfl)) <| .nil)) ?_
          refine R_q _ rfl (v_fieldP (ov rfl) rfl rfl tF57_0) ?_
          refine R_w _ _ rfl (w_store (ov rfl) (ov rfl) (cells_scal tS9) rfl rfl rfl (Nat.le_of_ble_eq_true rfl) (cell1_all rfl) rfl) ?_
          refine R_nil ?_
          exact ⟨(api_Face.mk y7 0 m.Lit x.Mark), h, Ent.sel [some 0, some 1] (sr 10 rfl (.ptr _ _ _ rfl) <| sr 11 rfl (.ptr _ _ _ rfl) <| sn) (.cons rfl (ro1 (by exact tZ_57.symm) (rld rfl)) <| .cons rfl (ro1 (by exact tZ_57.symm) (rld rfl)) <| .nil) rfl rfl⟩
         ·
          refine T_skip ?_
          exact ⟨(api_Face.mk [45, 45, 45] 0 m.Lit x.Mark), h, Ent.sel [some 0, some 1] (sr 10 rfl (.ptr _ _ _ rfl) <| sr 11 rfl (.ptr _ _ _ rfl) <| sn) (.cons rfl (ro1 (by exact tZ_57.symm) (rld rfl)) <| .cons rfl (ro1 (by exact tZ_57.symm) (rld rfl)) <| .nil) rfl rfl⟩
       ·
        refine T_skip ?_
        exact ⟨(api_Face.mk [45, 45, 45] 0 m.Lit x.Mark), h, Ent.sel [some 0, some 1] (sr 10 rfl (.ptr _ _ _ rfl) <| sr 11 rfl (.ptr _ _ _ rfl) <| sn) (.cons rfl (ro1 (by exact tZ_57.symm) (rld rfl)) <| .cons rfl (ro1 (by exact tZ_57.symm) (rld rfl)) <| .nil) rfl rfl⟩
 ·
  obtain ⟨out, rfl⟩ : ∃ x, x = j := ⟨_, rfl⟩
  replace h := t1i h
  refine t1T ?_
  refine T_seq (T_reg ?_)
  refine R_q _ rfl (v_loadA (ov rfl) rfl rfl rfl tA57 rfl rfl) ?_
  refine R_w _ _ rfl (w_store (ov rfl) (ov rfl) (cells_agg tA57 rfl) rfl rfl rfl (Nat.le_of_ble_eq_true rfl) (cell1_all rfl) rfl) ?_
  refine R_nil ?_
  obtain rfl := rt (v := out) h
  refine T_ret (retq ?_ (.one (.agg rfl rfl rfl rfl tA57 rfl rfl (pwB rfl))))
  rfl

theorem ok_panel_faces {p : api_Panel} {l : List api_Track} {s : api_PanelState} {r : (List api_Face)} (h : panel_faces p l s = some r) :
  CSpec Tryz.prog gl0 72 [.agg [.sl 55 (List.map R55 p.Instruments)], .sl 26 (List.map R26 l), .agg [.int .i64 s.Frame, .sl 129 (List.map R129 s.Memos)]] (.sl 57 (List.map R57 r)) := by
 unfold panel_faces at h
 replace h := bnd0 h
 refine spec_of (by kernel_rfl) Tryz.func72 rfl rfl ?_
 intro w0 A
 refine T_seq (T_reg ?_)
 refine R_q _ rfl (v_boxD (cva (ov rfl)) rfl tZ_41 rfl) ?_
 refine R_q _ rfl (v_boxD (cva (ov rfl)) rfl tZ_65 rfl) ?_
 refine R_q _ rfl (v_assign (ov rfl)) ?_
 refine R_nil ?_
 refine T_keep (kc 1 rfl <| kc 3 rfl <| kc 5 rfl <| kn) rfl ?_
 refine T_seq (T_reg ?_)
 refine R_q _ rfl (v_assign (ov rfl)) ?_
 refine R_nil ?_
 refine T_joinG id (t1 fun out => ⟨[(7, .own 0 out.length)], [some ⟨57, List.map R57 out⟩]⟩) h (fun h => ?_) (fun j h => ?_)
 ·
  refine T_seq (T_reg ?_)
  refine R_q _ rfl (v_fieldR (ov rfl) tF41_0) ?_
  refine R_q _ rfl (v_loadS_r (ov rfl) tS39 rfl) ?_
  refine R_q _ rfl (v_len (slv_sl (ov rfl) tZ_55) tL39 (len_map _ _)) ?_
  refine R_q _ rfl (v_move (ov rfl)) ?_
  refine R_nil ?_
  refine T_block ?_
  obtain ⟨r1, hl1, ho1⟩ := bndL h
  refine T_loopG _ (t2 fun out2 i => ⟨[(1, .sl 26 (List.map R26 l)), (5, .rp [.int .i64 s.Frame, .sl 129 (List.map R129 s.Memos)] 0), (7, .own 0 out2.length), (14, .sl 55 (List.map R55 p.Instruments)), (15, .int .i64 (p.Instruments.length : Int)), (16, .int .i64 i)], [some ⟨57, List.map R57 out2⟩]⟩) _ hl1 (Ent.sel [none] (sd 1 rfl rfl <| sd 5 rfl rfl <| sr 7 rfl (.row rfl) <| sd 14 rfl rfl <| sd 15 rfl rfl <| sd 16 rfl rfl <| sn) (.row 57 <| .nil) rfl rfl) (fun n1 s1 h => ?_)
  obtain ⟨out2, i⟩ := s1
  replace h := t2i h
  refine t2T ?_
  unfold panel_faces_L1 at h
  refine T_seq (T_reg ?_)
  refine R_q _ rfl (v_lss (ov rfl) (ov rfl)) ?_
  refine R_nil ?_
  refine T_seq ?_
  refine T_if h rfl (fun b17 h => ?_) (fun b17 h => ?_)
  ·
   refine T_skip ?_
   refine T_seq ?_
   refine T_block ?_
   refine T_keep (kc 1 rfl <| kc 5 rfl <| kc 7 rfl <| kc 14 rfl <| kc 15 rfl <| kc 16 rfl <| kn) rfl ?_
   refine T_seq (T_reg ?_)
   refine R_q _ rfl (v_move (ov rfl)) ?_
   obtain ⟨x, h_x, h⟩ := bnd h
   refine R_q _ rfl (v_ixSG (ov rfl) (ov rfl) tL39 h_x) ?_
   refine R_q _ rfl (v_loadA_r (ov rfl) tA55 rfl rfl) ?_
   refine R_w _ _ rfl (w_alloc (row := [_, _, _, _, _, _, _, _, _, _, _, _]) 1 rfl tZ55 rfl tZ_55) ?_
   refine R_q _ rfl (v_assign (ov rfl)) ?_
   refine R_w _ _ rfl (w_store (ov rfl) (ov rfl) (cells_agg tA55 rfl) rfl rfl rfl (Nat.le_of_ble_eq_true rfl) (cell1_all rfl) rfl) ?_
   refine R_nil ?_
   refine T_keep (kc 1 rfl <| kc 5 rfl <| kc 7 rfl <| kc 8 rfl <| kc 9 rfl <| kc 14 rfl <| kc 15 rfl <| kc 16 rfl <| kn) rfl ?_
   refine T_seq (T_reg ?_)
   refine R_q _ rfl (v_move (ov rfl)) ?_
   refine R_q _ rfl (v_move (ov rfl)) ?_
   refine R_q _ rfl (v_loadA (ov rfl) rfl rfl rfl tA55 rfl rfl) ?_
   obtain ⟨y, h_y, h⟩ := bnd h
   refine R_q _ rfl (v_call (ok_panel_trackOf h_y) (.cons (ov rfl) (.b rfl) <| .cons (ov rfl) (.aggB rfl) <| .nil)) ?_
   obtain ⟨x2, h_x2, h⟩ := bnd h
   refine R_q _ rfl (v_ixSG (ov rfl) (ov rfl) tL42 h_x2) ?_
   refine R_q _ rfl (v_loadA_r (ov rfl) tA26 rfl rfl) ?_
   refine R_w _ _ rfl (w_alloc (row := [_, _, _, _]) 2 rfl tZ26 rfl tZ_26) ?_
   refine R_w _ _ rfl (w_store (ov rfl) (ov rfl) (cells_agg tA26 rfl) rfl rfl rfl (Nat.le_of_ble_eq_true rfl) (cell1_all rfl) rfl) ?_
   refine R_nil ?_
   refine T_keep (kc 1 rfl <| kc 5 rfl <| kc 7 rfl <| kc 8 rfl <| kc 9 rfl <| kc 10 rfl <| kc 14 rfl <| kc 15 rfl <| kc 16 rfl <| kn) rfl ?_
   refine T_seq (T_reg ?_)
   refine R_w _ _ rfl (w_alloc (row := [_, _, _]) 3 rfl tZ28 rfl tZ_28) ?_
   refine R_nil ?_
   refine T_seq (T_reg ?_)
   refine R_q _ rfl (v_assign (ov rfl)) ?_
   refine R_nil ?_
   refine T_joinG id (t2 fun x3 known => ⟨[(1, .sl 26 (List.map R26 l)), (5, .rp [.int .i64 s.Frame, .sl 129 (List.map R129 s.Memos)] 0), (7, .own 0 out2.length), (8, .int .i64 i), (9, .ptr 1 1 0 0), (10, .ptr 2 1 0 0), (11, .ptr 3 1 0 0), (12, .bool known), (14, .sl 55 (List.map R55 p.Instruments)), (15, .int .i64 (p.Instruments.length : Int)), (16, .int .i64 i)], [some ⟨57, List.map R57 out2⟩, some ⟨55, [[.int .i64 x.Kind, .str x.Name, .str x.Track, .int .i64 x.Places, .int .i64 x.Low, .int .i64 x.High, .int .i64 x.Steps, .sl 169 (List.map R169 x.Zones), .int .i64 x.Op, .int .i64 x.N, .bool x.Latch, .int .i64 x.Size]]⟩, some ⟨26, [[.str x2.Name, .int .i64 x2.Series.Den, .sl 28 (List.map R28 x2.Series.Samples), .int .i64 x2.Long]]⟩, some ⟨28, [[.int .i64 x3.At, .int .i64 x3.N, .int .i64 x3.Mark]]⟩]⟩) h (fun h => ?_) (fun j h => ?_)
   ·
    refine T_seq (T_reg ?_)
    refine R_q _ rfl (v_fieldR (ov rfl) tF65_0) ?_
    refine R_q _ rfl (v_loadS_r (ov rfl) tS3 rfl) ?_
    refine R_q _ rfl (v_geq (ov rfl) (ov rfl)) ?_
    refine R_nil ?_
    refine T_keep (kc 1 rfl <| kc 5 rfl <| kc 7 rfl <| kc 8 rfl <| kc 9 rfl <| kc 10 rfl <| kc 11 rfl <| kc 12 rfl <| kc 14 rfl <| kc 15 rfl <| kc 16 rfl <| kc 29 rfl <| kn) rfl ?_
    refine T_if h rfl (fun b29 h => ?_) (fun b29 h => ?_)
    ·
     refine T_keep (kc 1 rfl <| kc 5 rfl <| kc 7 rfl <| kc 8 rfl <| kc 9 rfl <| kc 10 rfl <| kc 11 rfl <| kc 12 rfl <| kc 14 rfl <| kc 15 rfl <| kc 16 rfl <| kn) rfl ?_
     refine T_reg ?_
     refine R_q _ rfl (v_loadA (ov rfl) rfl rfl rfl tA26 rfl rfl) ?_
     refine R_q _ rfl (v_fieldR (ov rfl) tF65_0) ?_
     refine R_q _ rfl (v_loadS_r (ov rfl) tS3 rfl) ?_
     obtain ⟨y2, h_y2, h⟩ := bnd h
     refine R_q _ rfl (v_call (ok_panel_value h_y2) (.cons (ov rfl) (.aggB rfl) <| .cons (ov rfl) (.b rfl) <| .nil)) ?_
     refine R_q _ rfl (v_move (ov rfl)) ?_
     refine R_q _ rfl (v_extract (ov rfl) rfl) ?_
     refine R_q _ rfl (v_extract (ov rfl) rfl) ?_
     refine R_w _ _ rfl (w_store (ov rfl) (ov rfl) (cells_agg tA28 rfl) rfl rfl rfl (Nat.le_of_ble_eq_true rfl) (cell1_all rfl) rfl) ?_
     refine R_q _ rfl (v_assign (ov rfl)) ?_
     refine R_nil ?_
     exact ⟨(y2.1, y2.2), h, Ent.sel [some 0, some 1, some 2, some 3] (sd 1 rfl rfl <| sd 5 rfl rfl <| sr 7 rfl (.own _ rfl) <| sd 8 rfl rfl <| sr 9 rfl (.ptr _ _ _ rfl) <| sr 10 rfl (.ptr _ _ _ rfl) <| sr 11 rfl (.ptr _ _ _ rfl) <| sd 12 rfl rfl <| sd 14 rfl rfl <| sd 15 rfl rfl <| sd 16 rfl rfl <| sn) (.cons rfl (roM D57) <| .cons rfl (ro1 (by exact tZ_55.symm) (rld rfl)) <| .cons rfl (ro1 (by exact tZ_26.symm) (rld rfl)) <| .cons rfl (ro1 (by exact tZ_28.symm) (rld rfl)) <| .nil) rfl rfl⟩
    ·
     refine T_skip ?_
     exact ⟨((api_Sample.mk 0 0 0), false), h, Ent.sel [some 0, some 1, some 2, some 3] (sd 1 rfl rfl <| sd 5 rfl rfl <| sr 7 rfl (.own _ rfl) <| sd 8 rfl rfl <| sr 9 rfl (.ptr _ _ _ rfl) <| sr 10 rfl (.ptr _ _ _ rfl) <| sr 11 rfl (.ptr _ _ _ rfl) <| sd 12 rfl rfl <| sd 14 rfl rfl <| sd 15 rfl rfl <| sd 16 rfl rfl <| sn) (.cons rfl (roM D57) <| .cons rfl (ro1 (by exact tZ_55.symm) (rld rfl)) <| .cons rfl (ro1 (by exact tZ_26.symm) (rld rfl)) <| .cons rfl (ro1 (by exact tZ_28.symm) (rld rfl)) <| .nil) rfl rfl⟩
   ·
    obtain ⟨x3, known⟩ := j
    replace h := t2i h
    refine t2T ?_
    refine T_draw (cw := md0) (by kernel_rfl) ?_
    refine D_q0 0 _ rfl (by kernel_rfl) rfl rfl (v_move (ov rfl)) ?_
    refine D_q0 1 _ rfl (by kernel_rfl) rfl rfl (v_loadA (ov rfl) rfl rfl rfl tA55 rfl rfl) ?_
    refine D_q0 2 _ rfl (by kernel_rfl) rfl rfl (v_fieldR (ov rfl) tF65_1) ?_
    refine D_q0 3 _ rfl (by kernel_rfl) rfl rfl (v_loadS_r (ov rfl) tS63 rfl) ?_
    refine D_q0 4 _ rfl (by kernel_rfl) rfl rfl (v_move (ov rfl)) ?_
    obtain ⟨x4, h_x4, h⟩ := bnd h
    refine D_q0 5 _ rfl (by kernel_rfl) rfl rfl (v_ixSG (ov rfl) (ov rfl) tL63 h_x4) ?_
    refine D_q0 6 _ rfl (by kernel_rfl) rfl rfl (v_loadA_r (ov rfl) tA129 rfl rfl) ?_
    refine D_q0 7 _ rfl (by kernel_rfl) rfl rfl (v_fieldP (ov rfl) rfl rfl tF26_1) ?_
    refine D_q0 8 _ rfl (by kernel_rfl) rfl rfl (v_fieldP (ov rfl) rfl rfl tF24_0) ?_
    refine D_q0 9 _ rfl (by kernel_rfl) rfl rfl (v_loadS (ov rfl) rfl rfl rfl tS3 rfl) ?_
    refine D_q0 10 _ rfl (by kernel_rfl) rfl rfl (v_loadA (ov rfl) rfl rfl rfl tA28 rfl rfl) ?_
    refine D_q0 11 _ rfl (by kernel_rfl) rfl rfl (v_move (ov rfl)) ?_
    obtain ⟨y3, h_y3, h⟩ := bnd h
    refine D_q0 12 _ rfl (by kernel_rfl) rfl rfl (v_call (ok_panel_face h_y3) (.cons (ov rfl) (.aggB rfl) <| .cons (ov rfl) (.aggB rfl) <| .cons (ov rfl) (.b rfl) <| .cons (ov rfl) (.aggB rfl) <| .cons (ov rfl) (.b rfl) <| .nil)) ?_
    refine D_q0 13 (.sl 57 (List.map R57 ([y3] : List api_Face))) rfl (by kernel_rfl) rfl rfl (v_lit tL51 (.cons (cva (ov rfl)) rfl (pwD rfl) <| .nil) rfl rfl) ?_
    obtain ⟨l2, h_l2, h⟩ := bnd h
    refine D_one 14 _ _ rfl (by kernel_rfl) rfl rfl (fun h => by cases h) (fun h => by cases h) (w_appendG (ov rfl) (slv_sl (ov rfl) tZ_57) tL51 rfl rfl rfl (fun _ => cell1_all rfl) rfl h_l2) ?_
    refine D_q0 15 _ rfl (by kernel_rfl) rfl rfl (v_assign (ov rfl)) ?_
    refine D_done (by kernel_rfl) ?_
    refine T_keep (kc 1 rfl <| kc 5 rfl <| kc 7 rfl <| kc 14 rfl <| kc 15 rfl <| kc 16 rfl <| kn) rfl ?_
    refine T_reg ?_
    refine R_q _ rfl (v_add (ov rfl) (ov rfl) rfl) ?_
    refine R_q _ rfl (v_move (ov rfl)) ?_
    refine R_nil ?_
    exact ⟨(l2, (i64 (i + 1))), h, Ent.sel [some 0] (sd 1 rfl rfl <| sd 5 rfl rfl <| sr 7 rfl (.own _ rfl) <| sd 14 rfl rfl <| sd 15 rfl rfl <| sd 16 rfl rfl <| sn) (.cons rfl (roM D57) <| .nil) rfl rfl⟩
  ·
   refine T_exit ?_
   rw [lx h] at ho1
   replace h := ho1
   exact ⟨out2, h, Ent.sel [some 0] (sr 7 rfl (.own _ rfl) <| sn) (.cons rfl (roM D57) <| .nil) rfl rfl⟩
 ·
  obtain ⟨out, rfl⟩ : ∃ x, x = j := ⟨_, rfl⟩
  replace h := t1i h
  refine t1T ?_
  refine T_seq (T_reg ?_)
  refine R_q _ rfl (v_move (ov rfl)) ?_
  refine R_q _ rfl (v_assign (ov rfl)) ?_
  refine R_nil ?_
  obtain rfl := rt (v := out) h
  refine T_ret (retq ?_ (.one (.tmp rfl (View.ownM rfl rfl D57))))
  rfl

theorem ok_panel_Differ {p : api_Panel} {a : List api_Track} {b : List api_Track} {to : Int} {r : Int × Int × Bool × Int} (h : panel_Differ p a b to = some r) :
  CSpec Tryz.prog gl0 20 [.agg [.sl 55 (List.map R55 p.Instruments)], .sl 26 (List.map R26 a), .sl 26 (List.map R26 b), .int .i64 to] (.tuple [.int .i64 r.1, .int .i64 r.2.1, .bool r.2.2.1, .int .i64 r.2.2.2]) := by
 unfold panel_Differ at h
 replace h := bnd0 h
 refine spec_of (by kernel_rfl) Tryz.func20 rfl rfl ?_
 intro w0 A
 refine T_seq (T_reg ?_)
 refine R_q _ rfl (v_boxD (cva (ov rfl)) rfl tZ_41 rfl) ?_
 refine R_q _ rfl (v_assign (ov rfl)) ?_
 refine R_q _ rfl (v_assign (ov rfl)) ?_
 refine R_q _ rfl (v_assign (ov rfl)) ?_
 refine R_q _ rfl (v_assign (ov rfl)) ?_
 refine R_nil ?_
 refine T_joinG (fun j => (.inr j)) (t0 ⟨[(1, .sl 26 (List.map R26 a)), (2, .sl 26 (List.map R26 b)), (3, .int .i64 to), (4, .rp [.sl 55 (List.map R55 p.Instruments)] 0)], []⟩) h (fun h => ?_) (fun j h => ?_)
 ·
  refine T_keep (kc 1 rfl <| kc 2 rfl <| kc 3 rfl <| kc 4 rfl <| kn) rfl ?_
  refine T_seq (T_reg ?_)
  refine R_q _ rfl (v_move (ov rfl)) ?_
  refine R_q _ rfl (v_move (ov rfl)) ?_
  refine R_q (.sl 42 (List.map R42 ([a, b] : List (List api_Track)))) rfl (v_lit tL104 (.cons (cvs (ov rfl) (cell1_b rfl)) rfl (.cons (.b rfl) .nil) <| .cons (cvs (ov rfl) (cell1_b rfl)) rfl (.cons (.b rfl) .nil) <| .nil) rfl rfl) ?_
  refine R_q _ rfl (v_len (slv_sl (ov rfl) tZ_42) tL104 (len_map _ _)) ?_
  refine R_q _ rfl (v_move (ov rfl)) ?_
  refine R_nil ?_
  refine T_block ?_
  obtain ⟨r1, hl1, ho1⟩ := bndL h
  refine T_loopG _ (t1 fun i => ⟨[(1, .sl 26 (List.map R26 a)), (2, .sl 26 (List.map R26 b)), (3, .int .i64 to), (4, .rp [.sl 55 (List.map R55 p.Instruments)] 0), (23, .sl 42 (List.map R42 ([a, b] : List (List api_Track)))), (24, .int .i64 (([a, b] : List (List api_Track)).length : Int)), (25, .int .i64 i)], []⟩) _ hl1 (Ent.sel [] (sd 1 rfl rfl <| sd 2 rfl rfl <| sd 3 rfl rfl <| sd 4 rfl rfl <| sd 23 rfl rfl <| sd 24 rfl rfl <| sd 25 rfl rfl <| sn) (.nil) rfl rfl) (fun n1 s1 h => ?_)
  obtain ⟨i, rfl⟩ : ∃ x, x = s1 := ⟨_, rfl⟩
  replace h := t1i h
  refine t1T ?_
  unfold panel_Differ_L1 at h
  refine T_seq (T_reg ?_)
  refine R_q _ rfl (v_lss (ov rfl) (ov rfl)) ?_
  refine R_nil ?_
  refine T_seq ?_
  refine T_if h rfl (fun b26 h => ?_) (fun b26 h => ?_)
  ·
   refine T_skip ?_
   refine T_seq ?_
   refine T_block ?_
   refine T_keep (kc 1 rfl <| kc 2 rfl <| kc 3 rfl <| kc 4 rfl <| kc 23 rfl <| kc 24 rfl <| kc 25 rfl <| kn) rfl ?_
   refine T_seq (T_reg ?_)
   obtain ⟨x, h_x, h⟩ := bnd h
   refine R_q _ rfl (v_ixSG (ov rfl) (ov rfl) tL104 h_x) ?_
   refine R_q _ rfl (v_loadS_r (ov rfl) tS42 rfl) ?_
   refine R_q _ rfl (v_assign (ov rfl)) ?_
   refine R_nil ?_
   refine T_keep (kc 1 rfl <| kc 2 rfl <| kc 3 rfl <| kc 4 rfl <| kc 13 rfl <| kc 23 rfl <| kc 24 rfl <| kc 25 rfl <| kn) rfl ?_
   refine T_seq (T_reg ?_)
   refine R_q _ rfl (v_loadA_r (ov rfl) tA41 rfl rfl) ?_
   refine R_q _ rfl (v_move (ov rfl)) ?_
   obtain ⟨y, h_y, h⟩ := bnd h
   refine R_q _ rfl (v_call (ok_panel_checkBoth h_y) (.cons (ov rfl) (.aggB rfl) <| .cons (ov rfl) (.b rfl) <| .nil)) ?_
   refine R_q _ rfl (v_assign (ov rfl)) ?_
   refine R_nil ?_
   refine T_keep (kc 1 rfl <| kc 2 rfl <| kc 3 rfl <| kc 4 rfl <| kc 14 rfl <| kc 23 rfl <| kc 24 rfl <| kc 25 rfl <| kn) rfl ?_
   refine T_seq (T_reg ?_)
   refine R_q _ rfl (v_move (ov rfl)) ?_
   refine R_q _ rfl (v_neq (ov rfl) (ov rfl)) ?_
   refine R_nil ?_
   refine T_keep (kc 1 rfl <| kc 2 rfl <| kc 3 rfl <| kc 4 rfl <| kc 14 rfl <| kc 23 rfl <| kc 24 rfl <| kc 25 rfl <| kc 33 rfl <| kn) rfl ?_
   refine T_if h rfl (fun b33 h => ?_) (fun b33 h => ?_)
   ·
    refine T_keep (kc 14 rfl <| kn) rfl ?_
    refine T_seq (T_reg ?_)
    refine R_q _ rfl (v_move (ov rfl)) ?_
    refine R_q _ rfl (v_assign (ov rfl)) ?_
    refine R_q _ rfl (v_assign (ov rfl)) ?_
    refine R_q _ rfl (v_assign (ov rfl)) ?_
    refine R_q _ rfl (v_assign (ov rfl)) ?_
    refine R_nil ?_
    rw [lx h] at ho1
    replace h := ho1
    obtain rfl := rt (v := (0, 0, false, y)) h
    refine T_ret (retq ?_ (.four (.tmp rfl (Dat.view (.b rfl))) (.tmp rfl (Dat.view (.b rfl))) (.tmp rfl (Dat.view (.b rfl))) (.tmp rfl (Dat.view (.b rfl)))))
    rfl
   ·
    refine T_skip ?_
    refine T_keep (kc 1 rfl <| kc 2 rfl <| kc 3 rfl <| kc 4 rfl <| kc 23 rfl <| kc 24 rfl <| kc 25 rfl <| kn) rfl ?_
    refine T_reg ?_
    refine R_q _ rfl (v_add (ov rfl) (ov rfl) rfl) ?_
    refine R_q _ rfl (v_move (ov rfl)) ?_
    refine R_nil ?_
    exact ⟨(i64 (i + 1)), h, Ent.sel [] (sd 1 rfl rfl <| sd 2 rfl rfl <| sd 3 rfl rfl <| sd 4 rfl rfl <| sd 23 rfl rfl <| sd 24 rfl rfl <| sd 25 rfl rfl <| sn) (.nil) rfl rfl⟩
  ·
   refine T_exit ?_
   rw [lx h] at ho1
   replace h := ho1
   exact ⟨(), h, Ent.sel [] (sd 1 rfl rfl <| sd 2 rfl rfl <| sd 3 rfl rfl <| sd 4 rfl rfl <| sn) (.nil) rfl rfl⟩
 ·
  replace h := elr h
  cases j
  replace h := t0i h
  refine t0T ?_
  refine T_seq ?_
  refine T_seq (T_reg ?_)
  refine R_q _ rfl (v_move (ov rfl)) ?_
  obtain ⟨y2, h_y2, h⟩ := bnd h
  refine R_q _ rfl (v_call (ok_panel_within h_y2) (.cons (ov rfl) (.b rfl) <| .cons (ov rfl) (.b rfl) <| .cons (ov rfl) (.b rfl) <| .nil)) ?_
  refine R_q _ rfl (v_not (ov rfl)) ?_
  refine R_nil ?_
  refine T_keep (kc 1 rfl <| kc 2 rfl <| kc 3 rfl <| kc 4 rfl <| kc 38 rfl <| kn) rfl ?_
  refine T_if h rfl (fun b38 h => ?_) (fun b38 h => ?_)
  ·
   refine T_keep (kn) rfl ?_
   refine T_seq (T_reg ?_)
   refine R_q _ rfl (v_assign (ov rfl)) ?_
   refine R_q _ rfl (v_assign (ov rfl)) ?_
   refine R_q _ rfl (v_assign (ov rfl)) ?_
   refine R_q _ rfl (v_assign (ov rfl)) ?_
   refine R_nil ?_
   obtain rfl := rt (v := (0, 0, false, 9)) h
   refine T_ret (retq ?_ (.four (.tmp rfl (Dat.view (.b rfl))) (.tmp rfl (Dat.view (.b rfl))) (.tmp rfl (Dat.view (.b rfl))) (.tmp rfl (Dat.view (.b rfl)))))
   rfl
  ·
   refine T_skip ?_
   refine T_keep (kc 1 rfl <| kc 2 rfl <| kc 3 rfl <| kc 4 rfl <| kn) rfl ?_
   refine T_seq (T_draw (cw := md0) (by kernel_rfl) ?_)
   refine D_read 0 _ rfl (by kernel_rfl) rfl rfl rfl ExtW.refl (fun hp' hx => v_loadA_r (ov rfl) tA41 rfl rfl) ?_
   obtain ⟨y3, h_y3, h⟩ := bnd h
   refine D_read 1 _ rfl (by kernel_rfl) rfl rfl rfl ExtW.refl (fun hp' hx => v_call (ok_panel_first h_y3) (.cons (ov rfl) (.aggB rfl) <| .nil)) ?_
   refine D_read 2 _ rfl (by kernel_rfl) rfl rfl rfl ExtW.refl (fun hp' hx => v_loadA_r (ov rfl) tA41 rfl rfl) ?_
   obtain ⟨y4, h_y4, h⟩ := bnd h
   refine D_read 3 _ rfl (by kernel_rfl) rfl rfl rfl ExtW.refl (fun hp' hx => v_call (ok_panel_first h_y4) (.cons (ov rfl) (.aggB rfl) <| .nil)) ?_
   refine D_two 4 5 rfl rfl (by kernel_rfl) rfl rfl rfl rfl (fun _ => Ext.app) (fun _ => Ext.app) (fun h => by cases h) (fun h => by cases h) (w_alloc (row := [_, _]) 0 rfl tZ65 rfl tZ_65) (w_alloc (row := [_, _]) 0 rfl tZ65 rfl tZ_65) ?_ ?_
   ·
    refine D_one 5 _ _ rfl (by kernel_rfl) rfl rfl (fun _ => Ext.app) (fun h => by cases h) (w_alloc (row := [_, _]) 1 rfl tZ65 rfl tZ_65) ?_
    refine D_one 6 _ _ rfl (by kernel_rfl) rfl rfl (fun h => by cases h) (fun h => by cases h) (w_store (ov rfl) (ov rfl) (cells_agg tA65 rfl) rfl rfl rfl (Nat.le_of_ble_eq_true rfl) (cell1_all rfl) rfl) ?_
    refine D_one 7 _ _ rfl (by kernel_rfl) rfl rfl (fun h => by cases h) (fun h => by cases h) (w_store (ov rfl) (ov rfl) (cells_agg tA65 rfl) rfl rfl rfl (Nat.le_of_ble_eq_true rfl) (cell1_all rfl) rfl) ?_
    refine D_done (by kernel_rfl) ?_
    refine T_joinG (fun j => (.inr j)) (t0 ⟨[], []⟩) h (fun h => ?_) (fun j h => ?_)
    ·
     refine T_keep (kc 1 rfl <| kc 2 rfl <| kc 3 rfl <| kc 4 rfl <| kc 15 rfl <| kc 16 rfl <| kn) rfl ?_
     refine T_seq (T_reg ?_)
     refine R_q _ rfl (v_move (ov rfl)) ?_
     refine R_q _ rfl (v_add (ov rfl) (ov rfl) rfl) ?_
     refine R_q _ rfl (v_move (ov rfl)) ?_
     refine R_nil ?_
     refine T_block ?_
     obtain ⟨r2, hl2, ho2⟩ := bndL h
     refine T_loopG _ (t3 fun s t i2 => ⟨[(1, .sl 26 (List.map R26 a)), (2, .sl 26 (List.map R26 b)), (4, .rp [.sl 55 (List.map R55 p.Instruments)] 0), (15, .ptr 0 1 0 0), (16, .ptr 1 1 0 0), (44, .int .i64 (i64 (to + 1))), (45, .int .i64 i2)], [some ⟨65, [[.int .i64 s.Frame, .sl 129 (List.map R129 s.Memos)]]⟩, some ⟨65, [[.int .i64 t.Frame, .sl 129 (List.map R129 t.Memos)]]⟩]⟩) _ hl2 (Ent.sel [some 0, some 1] (sd 1 rfl rfl <| sd 2 rfl rfl <| sd 4 rfl rfl <| sr 15 rfl (.ptr _ _ _ rfl) <| sr 16 rfl (.ptr _ _ _ rfl) <| sd 44 rfl rfl <| sd 45 rfl rfl <| sn) (.cons rfl (ro1 (by exact tZ_65.symm) (rld rfl)) <| .cons rfl (ro1 (by exact tZ_65.symm) (rld rfl)) <| .nil) rfl rfl) (fun n2 s2 h => ?_)
     obtain ⟨s, t, i2⟩ := s2
     replace h := t3i h
     refine t3T ?_
     unfold panel_Differ_L2 at h
     refine T_seq (T_reg ?_)
     refine R_q _ rfl (v_lss (ov rfl) (ov rfl)) ?_
     refine R_nil ?_
     refine T_seq ?_
     refine T_if h rfl (fun b46 h => ?_) (fun b46 h => ?_)
     ·
      refine T_skip ?_
      refine T_joinG (fun j => (.inr j)) (t2 fun s2 t2 => ⟨[(1, .sl 26 (List.map R26 a)), (2, .sl 26 (List.map R26 b)), (4, .rp [.sl 55 (List.map R55 p.Instruments)] 0), (15, .ptr 0 1 0 0), (16, .ptr 1 1 0 0), (44, .int .i64 (i64 (to + 1))), (45, .int .i64 i2)], [some ⟨65, [[.int .i64 s2.Frame, .sl 129 (List.map R129 s2.Memos)]]⟩, some ⟨65, [[.int .i64 t2.Frame, .sl 129 (List.map R129 t2.Memos)]]⟩]⟩) h (fun h => ?_) (fun j h => ?_)
      ·
       refine T_block ?_
       refine T_keep (kc 1 rfl <| kc 2 rfl <| kc 4 rfl <| kc 15 rfl <| kc 16 rfl <| kc 44 rfl <| kc 45 rfl <| kn) rfl ?_
       refine T_seq (T_reg ?_)
       refine R_q _ rfl (v_move (ov rfl)) ?_
       refine R_q _ rfl (v_assign (ov rfl)) ?_
       refine R_nil ?_
       refine T_keep (kc 1 rfl <| kc 2 rfl <| kc 4 rfl <| kc 15 rfl <| kc 16 rfl <| kc 17 rfl <| kc 44 rfl <| kc 45 rfl <| kn) rfl ?_
       refine T_seq (T_draw (cw := md0) (by kernel_rfl) ?_)
       refine D_q0 0 _ rfl (by kernel_rfl) rfl rfl (v_loadA_r (ov rfl) tA41 rfl rfl) ?_
       refine D_q0 1 _ rfl (by kernel_rfl) rfl rfl (v_move (ov rfl)) ?_
       refine D_q0 2 _ rfl (by kernel_rfl) rfl rfl (v_loadA (ov rfl) rfl rfl rfl tA65 rfl rfl) ?_
       obtain ⟨y5, h_y5, h⟩ := bnd h
       refine D_q0 3 _ rfl (by kernel_rfl) rfl rfl (v_call (ok_panel_advance h_y5) (.cons (ov rfl) (.aggB rfl) <| .cons (ov rfl) (.b rfl) <| .cons (ov rfl) (.aggB rfl) <| .nil)) ?_
       refine D_q0 4 _ rfl (by kernel_rfl) rfl rfl (v_loadA_r (ov rfl) tA41 rfl rfl) ?_
       refine D_q0 5 _ rfl (by kernel_rfl) rfl rfl (v_move (ov rfl)) ?_
       refine D_q0 6 _ rfl (by kernel_rfl) rfl rfl (v_loadA (ov rfl) rfl rfl rfl tA65 rfl rfl) ?_
       obtain ⟨y6, h_y6, h⟩ := bnd h
       refine D_q0 7 _ rfl (by kernel_rfl) rfl rfl (v_call (ok_panel_advance h_y6) (.cons (ov rfl) (.aggB rfl) <| .cons (ov rfl) (.b rfl) <| .cons (ov rfl) (.aggB rfl) <| .nil)) ?_
       refine D_one 8 _ _ rfl (by kernel_rfl) rfl rfl (fun h => by cases h) (fun h => by cases h) (w_store (ov rfl) (ov rfl) (cells_agg tA65 rfl) rfl rfl rfl (Nat.le_of_ble_eq_true rfl) (cell1_all rfl) rfl) ?_
       refine D_one 9 _ _ rfl (by kernel_rfl) rfl rfl (fun h => by cases h) (fun h => by cases h) (w_store (ov rfl) (ov rfl) (cells_agg tA65 rfl) rfl rfl rfl (Nat.le_of_ble_eq_true rfl) (cell1_all rfl) rfl) ?_
       refine D_done (by kernel_rfl) ?_
       refine T_keep (kc 1 rfl <| kc 2 rfl <| kc 4 rfl <| kc 15 rfl <| kc 16 rfl <| kc 17 rfl <| kc 44 rfl <| kc 45 rfl <| kn) rfl ?_
       refine T_seq (T_draw (cw := md0) (by kernel_rfl) ?_)
       refine D_q0 0 _ rfl (by kernel_rfl) rfl rfl (v_loadA_r (ov rfl) tA41 rfl rfl) ?_
       refine D_q0 1 _ rfl (by kernel_rfl) rfl rfl (v_move (ov rfl)) ?_
       refine D_q0 2 _ rfl (by kernel_rfl) rfl rfl (v_loadA (ov rfl) rfl rfl rfl tA65 rfl rfl) ?_
       obtain ⟨y7, h_y7, h⟩ := bnd h
       refine D_q0 3 _ rfl (by kernel_rfl) rfl rfl (v_call (ok_panel_faces h_y7) (.cons (ov rfl) (.aggB rfl) <| .cons (ov rfl) (.b rfl) <| .cons (ov rfl) (.aggB rfl) <| .nil)) ?_
       refine D_q0 4 _ rfl (by kernel_rfl) rfl rfl (v_loadA_r (ov rfl) tA41 rfl rfl) ?_
       refine D_q0 5 _ rfl (by kernel_rfl) rfl rfl (v_move (ov rfl)) ?_
       refine D_q0 6 _ rfl (by kernel_rfl) rfl rfl (v_loadA (ov rfl) rfl rfl rfl tA65 rfl rfl) ?_
       obtain ⟨y8, h_y8, h⟩ := bnd h
       refine D_q0 7 _ rfl (by kernel_rfl) rfl rfl (v_call (ok_panel_faces h_y8) (.cons (ov rfl) (.aggB rfl) <| .cons (ov rfl) (.b rfl) <| .cons (ov rfl) (.aggB rfl) <| .nil)) ?_
       refine D_q0 8 _ rfl (by kernel_rfl) rfl rfl (v_assign (ov rfl)) ?_
       refine D_q0 9 _ rfl (by kernel_rfl) rfl rfl (v_assign (ov rfl)) ?_
       refine D_done (by kernel_rfl) ?_
       refine T_keep (kc 1 rfl <| kc 2 rfl <| kc 4 rfl <| kc 15 rfl <| kc 16 rfl <| kc 17 rfl <| kc 18 rfl <| kc 19 rfl <| kc 44 rfl <| kc 45 rfl <| kn) rfl ?_
       refine T_seq (T_reg ?_)
       refine R_q _ rfl (v_move (ov rfl)) ?_
       refine R_q _ rfl (v_len (slv_sl (ov rfl) tZ_57) tL51 (len_map _ _)) ?_
       refine R_q _ rfl (v_move (ov rfl)) ?_
       refine R_nil ?_
       refine T_block ?_
       obtain ⟨r3, hl3, ho3⟩ := bndL h
       refine T_loopG _ (t1 fun i3 => ⟨[(1, .sl 26 (List.map R26 a)), (2, .sl 26 (List.map R26 b)), (4, .rp [.sl 55 (List.map R55 p.Instruments)] 0), (15, .ptr 0 1 0 0), (16, .ptr 1 1 0 0), (17, .int .i64 i2), (18, .sl 57 (List.map R57 y7)), (19, .sl 57 (List.map R57 y8)), (44, .int .i64 (i64 (to + 1))), (45, .int .i64 i2), (65, .int .i64 (y7.length : Int)), (66, .int .i64 i3)], [some ⟨65, [[.int .i64 y5.Frame, .sl 129 (List.map R129 y5.Memos)]]⟩, some ⟨65, [[.int .i64 y6.Frame, .sl 129 (List.map R129 y6.Memos)]]⟩]⟩) _ hl3 (Ent.sel [some 0, some 1] (sd 1 rfl rfl <| sd 2 rfl rfl <| sd 4 rfl rfl <| sr 15 rfl (.ptr _ _ _ rfl) <| sr 16 rfl (.ptr _ _ _ rfl) <| sd 17 rfl rfl <| sd 18 rfl rfl <| sd 19 rfl rfl <| sd 44 rfl rfl <| sd 45 rfl rfl <| sd 65 rfl rfl <| sd 66 rfl rfl <| sn) (.cons rfl (ro1 (by exact tZ_65.symm) (rld rfl)) <| .cons rfl (ro1 (by exact tZ_65.symm) (rld rfl)) <| .nil) rfl rfl) (fun n3 s3 h => ?_)
       obtain ⟨i3, rfl⟩ : ∃ x, x = s3 := ⟨_, rfl⟩
       replace h := t1i h
       refine t1T ?_
       unfold panel_Differ_L3 at h
       refine T_seq (T_reg ?_)
       refine R_q _ rfl (v_lss (ov rfl) (ov rfl)) ?_
       refine R_nil ?_
       refine T_seq ?_
       refine T_if h rfl (fun b67 h => ?_) (fun b67 h => ?_)
       ·
        refine T_skip ?_
        refine T_seq ?_
        refine T_block ?_
        refine T_keep (kc 1 rfl <| kc 2 rfl <| kc 4 rfl <| kc 15 rfl <| kc 16 rfl <| kc 17 rfl <| kc 18 rfl <| kc 19 rfl <| kc 44 rfl <| kc 45 rfl <| kc 65 rfl <| kc 66 rfl <| kn) rfl ?_
        refine T_seq (T_reg ?_)
        refine R_q _ rfl (v_move (ov rfl)) ?_
        refine R_q _ rfl (v_assign (ov rfl)) ?_
        refine R_nil ?_
        refine T_keep (kc 1 rfl <| kc 2 rfl <| kc 4 rfl <| kc 15 rfl <| kc 16 rfl <| kc 17 rfl <| kc 18 rfl <| kc 19 rfl <| kc 20 rfl <| kc 44 rfl <| kc 45 rfl <| kc 65 rfl <| kc 66 rfl <| kn) rfl ?_
        refine T_seq (T_draw (cw := md0) (by kernel_rfl) ?_)
        refine D_q0 0 _ rfl (by kernel_rfl) rfl rfl (v_move (ov rfl)) ?_
        refine D_q0 1 _ rfl (by kernel_rfl) rfl rfl (v_move (ov rfl)) ?_
        obtain ⟨x2, h_x2, h⟩ := bnd h
        refine D_q0 2 _ rfl (by kernel_rfl) rfl rfl (v_ixSG (ov rfl) (ov rfl) tL51 h_x2) ?_
        refine D_q0 3 _ rfl (by kernel_rfl) rfl rfl (v_loadA_r (ov rfl) tA57 rfl rfl) ?_
        refine D_q0 4 _ rfl (by kernel_rfl) rfl rfl (v_move (ov rfl)) ?_
        refine D_q0 5 _ rfl (by kernel_rfl) rfl rfl (v_move (ov rfl)) ?_
        obtain ⟨x3, h_x3, h⟩ := bnd h
        refine D_q0 6 _ rfl (by kernel_rfl) rfl rfl (v_ixSG (ov rfl) (ov rfl) tL51 h_x3) ?_
        refine D_q0 7 _ rfl (by kernel_rfl) rfl rfl (v_loadA_r (ov rfl) tA57 rfl rfl) ?_
        refine D_q0 8 _ rfl (by kernel_rfl) rfl rfl (v_neqS tFS57 (ov rfl) (ov rfl) (.aggB rfl) (.aggB rfl) rfl rfl) ?_
        refine D_done (by kernel_rfl) ?_
        refine T_keep (kc 1 rfl <| kc 2 rfl <| kc 4 rfl <| kc 15 rfl <| kc 16 rfl <| kc 17 rfl <| kc 18 rfl <| kc 19 rfl <| kc 20 rfl <| kc 44 rfl <| kc 45 rfl <| kc 65 rfl <| kc 66 rfl <| kc 77 rfl <| kn) rfl ?_
        refine T_if h rfl (fun b77 h => ?_) (fun b77 h => ?_)
        ·
         refine T_keep (kc 17 rfl <| kc 20 rfl <| kn) rfl ?_
         refine T_seq (T_reg ?_)
         refine R_q _ rfl (v_move (ov rfl)) ?_
         refine R_q _ rfl (v_move (ov rfl)) ?_
         refine R_q _ rfl (v_assign (ov rfl)) ?_
         refine R_q _ rfl (v_assign (ov rfl)) ?_
         refine R_q _ rfl (v_assign (ov rfl)) ?_
         refine R_q _ rfl (v_assign (ov rfl)) ?_
         refine R_nil ?_
         rw [lx h] at ho3
         replace h := ho3
         rw [lx h] at ho2
         replace h := ho2
         obtain rfl := rt (v := (i2, i3, true, 0)) h
         refine T_ret (retq ?_ (.four (.tmp rfl (Dat.view (.b rfl))) (.tmp rfl (Dat.view (.b rfl))) (.tmp rfl (Dat.view (.b rfl))) (.tmp rfl (Dat.view (.b rfl)))))
         rfl
        ·
         refine T_skip ?_
         refine T_keep (kc 1 rfl <| kc 2 rfl <| kc 4 rfl <| kc 15 rfl <| kc 16 rfl <| kc 17 rfl <| kc 18 rfl <| kc 19 rfl <| kc 44 rfl <| kc 45 rfl <| kc 65 rfl <| kc 66 rfl <| kn) rfl ?_
         refine T_reg ?_
         refine R_q _ rfl (v_add (ov rfl) (ov rfl) rfl) ?_
         refine R_q _ rfl (v_move (ov rfl)) ?_
         refine R_nil ?_
         exact ⟨(i64 (i3 + 1)), h, Ent.sel [some 0, some 1] (sd 1 rfl rfl <| sd 2 rfl rfl <| sd 4 rfl rfl <| sr 15 rfl (.ptr _ _ _ rfl) <| sr 16 rfl (.ptr _ _ _ rfl) <| sd 17 rfl rfl <| sd 18 rfl rfl <| sd 19 rfl rfl <| sd 44 rfl rfl <| sd 45 rfl rfl <| sd 65 rfl rfl <| sd 66 rfl rfl <| sn) (.cons rfl (ro1 (by exact tZ_65.symm) (rld rfl)) <| .cons rfl (ro1 (by exact tZ_65.symm) (rld rfl)) <| .nil) rfl rfl⟩
       ·
        refine T_exit ?_
        rw [lx h] at ho3
        replace h := ho3
        exact ⟨(y5, y6), h, Ent.sel [some 0, some 1] (sd 1 rfl rfl <| sd 2 rfl rfl <| sd 4 rfl rfl <| sr 15 rfl (.ptr _ _ _ rfl) <| sr 16 rfl (.ptr _ _ _ rfl) <| sd 44 rfl rfl <| sd 45 rfl rfl <| sn) (.cons rfl (ro1 (by exact tZ_65.symm) (rld rfl)) <| .cons rfl (ro1 (by exact tZ_65.symm) (rld rfl)) <| .nil) rfl rfl⟩
      ·
       replace h := elr h
       obtain ⟨s2, t2⟩ := j
       replace h := t2i h
       refine t2T ?_
       refine T_reg ?_
       refine R_q _ rfl (v_add (ov rfl) (ov rfl) rfl) ?_
       refine R_q _ rfl (v_move (ov rfl)) ?_
       refine R_nil ?_
       exact ⟨(s2, t2, (i64 (i2 + 1))), h, Ent.sel [some 0, some 1] (sd 1 rfl rfl <| sd 2 rfl rfl <| sd 4 rfl rfl <| sr 15 rfl (.ptr _ _ _ rfl) <| sr 16 rfl (.ptr _ _ _ rfl) <| sd 44 rfl rfl <| sd 45 rfl rfl <| sn) (.cons rfl (ro1 (by exact tZ_65.symm) (rld rfl)) <| .cons rfl (ro1 (by exact tZ_65.symm) (rld rfl)) <| .nil) rfl rfl⟩
     ·
      refine T_exit ?_
      rw [lx h] at ho2
      replace h := ho2
      exact ⟨(), h, Ent.sel [] (sn) (.nil) rfl rfl⟩
    ·
     replace h := elr h
     cases j
     replace h := t0i h
     refine t0T ?_
     refine T_seq (T_reg ?_)
     refine R_q _ rfl (v_assign (ov rfl)) ?_
     refine R_q _ rfl (v_assign (ov rfl)) ?_
     refine R_q _ rfl (v_assign (ov rfl)) ?_
     refine R_q _ rfl (v_assign (ov rfl)) ?_
     refine R_nil ?_
     obtain rfl := rt (v := (0, 0, false, 0)) h
     refine T_ret (retq ?_ (.four (.tmp rfl (Dat.view (.b rfl))) (.tmp rfl (Dat.view (.b rfl))) (.tmp rfl (Dat.view (.b rfl))) (.tmp rfl (Dat.view (.b rfl)))))
     rfl
   ·
    refine D_one 4 _ _ rfl (by kernel_rfl) rfl rfl (fun _ => Ext.app) (fun h => by cases h) (w_alloc (row := [_, _]) 1 rfl tZ65 rfl tZ_65) ?_
    refine D_one 6 _ _ rfl (by kernel_rfl) rfl rfl (fun h => by cases h) (fun h => by cases h) (w_store (ov rfl) (ov rfl) (cells_agg tA65 rfl) rfl rfl rfl (Nat.le_of_ble_eq_true rfl) (cell1_all rfl) rfl) ?_
    refine D_one 7 _ _ rfl (by kernel_rfl) rfl rfl (fun h => by cases h) (fun h => by cases h) (w_store (ov rfl) (ov rfl) (cells_agg tA65 rfl) rfl rfl rfl (Nat.le_of_ble_eq_true rfl) (cell1_all rfl) rfl) ?_
    refine D_done (by kernel_rfl) ?_
    refine T_joinG (fun j => (.inr j)) (t0 ⟨[], []⟩) h (fun h => ?_) (fun j h => ?_)
    ·
     refine T_keep (kc 1 rfl <| kc 2 rfl <| kc 3 rfl <| kc 4 rfl <| kc 15 rfl <| kc 16 rfl <| kn) rfl ?_
     refine T_seq (T_reg ?_)
     refine R_q _ rfl (v_move (ov rfl)) ?_
     refine R_q _ rfl (v_add (ov rfl) (ov rfl) rfl) ?_
     refine R_q _ rfl (v_move (ov rfl)) ?_
     refine R_nil ?_
     refine T_block ?_
     obtain ⟨r2, hl2, ho2⟩ := bndL h
     refine T_loopG _ (t3 fun s t i2 => ⟨[(1, .sl 26 (List.map R26 a)), (2, .sl 26 (List.map R26 b)), (4, .rp [.sl 55 (List.map R55 p.Instruments)] 0), (15, .ptr 0 1 0 0), (16, .ptr 1 1 0 0), (44, .int .i64 (i64 (to + 1))), (45, .int .i64 i2)], [some ⟨65, [[.int .i64 s.Frame, .sl 129 (List.map R129 s.Memos)]]⟩, some ⟨65, [[.int .i64 t.Frame, .sl 129 (List.map R129 t.Memos)]]⟩]⟩) _ hl2 (Ent.sel [some 1, some 0] (sd 1 rfl rfl <| sd 2 rfl rfl <| sd 4 rfl rfl <| sr 15 rfl (.ptr _ _ _ rfl) <| sr 16 rfl (.ptr _ _ _ rfl) <| sd 44 rfl rfl <| sd 45 rfl rfl <| sn) (.cons rfl (ro1 (by exact tZ_65.symm) (rld rfl)) <| .cons rfl (ro1 (by exact tZ_65.symm) (rld rfl)) <| .nil) rfl rfl) (fun n2 s2 h => ?_)
     obtain ⟨s, t, i2⟩ := s2
     replace h := t3i h
     refine t3T ?_
     unfold panel_Differ_L2 at h
     refine T_seq (T_reg ?_)
     refine R_q _ rfl (v_lss (ov rfl) (ov rfl)) ?_
     refine R_nil ?_
     refine T_seq ?_
     refine T_if h rfl (fun b46 h => ?_) (fun b46 h => ?_)
     ·
      refine T_skip ?_
      refine T_joinG (fun j => (.inr j)) (t2 fun s2 t2 => ⟨[(1, .sl 26 (List.map R26 a)), (2, .sl 26 (List.map R26 b)), (4, .rp [.sl 55 (List.map R55 p.Instruments)] 0), (15, .ptr 0 1 0 0), (16, .ptr 1 1 0 0), (44, .int .i64 (i64 (to + 1))), (45, .int .i64 i2)], [some ⟨65, [[.int .i64 s2.Frame, .sl 129 (List.map R129 s2.Memos)]]⟩, some ⟨65, [[.int .i64 t2.Frame, .sl 129 (List.map R129 t2.Memos)]]⟩]⟩) h (fun h => ?_) (fun j h => ?_)
      ·
       refine T_block ?_
       refine T_keep (kc 1 rfl <| kc 2 rfl <| kc 4 rfl <| kc 15 rfl <| kc 16 rfl <| kc 44 rfl <| kc 45 rfl <| kn) rfl ?_
       refine T_seq (T_reg ?_)
       refine R_q _ rfl (v_move (ov rfl)) ?_
       refine R_q _ rfl (v_assign (ov rfl)) ?_
       refine R_nil ?_
       refine T_keep (kc 1 rfl <| kc 2 rfl <| kc 4 rfl <| kc 15 rfl <| kc 16 rfl <| kc 17 rfl <| kc 44 rfl <| kc 45 rfl <| kn) rfl ?_
       refine T_seq (T_draw (cw := md0) (by kernel_rfl) ?_)
       refine D_q0 0 _ rfl (by kernel_rfl) rfl rfl (v_loadA_r (ov rfl) tA41 rfl rfl) ?_
       refine D_q0 1 _ rfl (by kernel_rfl) rfl rfl (v_move (ov rfl)) ?_
       refine D_q0 2 _ rfl (by kernel_rfl) rfl rfl (v_loadA (ov rfl) rfl rfl rfl tA65 rfl rfl) ?_
       obtain ⟨y5, h_y5, h⟩ := bnd h
       refine D_q0 3 _ rfl (by kernel_rfl) rfl rfl (v_call (ok_panel_advance h_y5) (.cons (ov rfl) (.aggB rfl) <| .cons (ov rfl) (.b rfl) <| .cons (ov rfl) (.aggB rfl) <| .nil)) ?_
       refine D_q0 4 _ rfl (by kernel_rfl) rfl rfl (v_loadA_r (ov rfl) tA41 rfl rfl) ?_
       refine D_q0 5 _ rfl (by kernel_rfl) rfl rfl (v_move (ov rfl)) ?_
       refine D_q0 6 _ rfl (by kernel_rfl) rfl rfl (v_loadA (ov rfl) rfl rfl rfl tA65 rfl rfl) ?_
       obtain ⟨y6, h_y6, h⟩ := bnd h
       refine D_q0 7 _ rfl (by kernel_rfl) rfl rfl (v_call (ok_panel_advance h_y6) (.cons (ov rfl) (.aggB rfl) <| .cons (ov rfl) (.b rfl) <| .cons (ov rfl) (.aggB rfl) <| .nil)) ?_
       refine D_one 8 _ _ rfl (by kernel_rfl) rfl rfl (fun h => by cases h) (fun h => by cases h) (w_store (ov rfl) (ov rfl) (cells_agg tA65 rfl) rfl rfl rfl (Nat.le_of_ble_eq_true rfl) (cell1_all rfl) rfl) ?_
       refine D_one 9 _ _ rfl (by kernel_rfl) rfl rfl (fun h => by cases h) (fun h => by cases h) (w_store (ov rfl) (ov rfl) (cells_agg tA65 rfl) rfl rfl rfl (Nat.le_of_ble_eq_true rfl) (cell1_all rfl) rfl) ?_
       refine D_done (by kernel_rfl) ?_
       refine T_keep (kc 1 rfl <| kc 2 rfl <| kc 4 rfl <| kc 15 rfl <| kc 16 rfl <| kc 17 rfl <| kc 44 rfl <| kc 45 rfl <| kn) rfl ?_
       refine T_seq (T_draw (cw := md0) (by kernel_rfl) ?_)
       refine D_q0 0 _ rfl (by kernel_rfl) rfl rfl (v_loadA_r (ov rfl) tA41 rfl rfl) ?_
       refine D_q0 1 _ rfl (by kernel_rfl) rfl rfl (v_move (ov rfl)) ?_
       refine D_q0 2 _ rfl (by kernel_rfl) rfl rfl (v_loadA (ov rfl) rfl rfl rfl tA65 rfl rfl) ?_
       obtain ⟨y7, h_y7, h⟩ := bnd h
       refine D_q0 3 _ rfl (by kernel_rfl) rfl rfl (v_call (ok_panel_faces h_y7) (.cons (ov rfl) (.aggB rfl) <| .cons (ov rfl) (.b rfl) <| .cons (ov rfl) (.aggB rfl) <| .nil)) ?_
       refine D_q0 4 _ rfl (by kernel_rfl) rfl rfl (v_loadA_r (ov rfl) tA41 rfl rfl) ?_
       refine D_q0 5 _ rfl (by kernel_rfl) rfl rfl (v_move (ov rfl)) ?_
       refine D_q0 6 _ rfl (by kernel_rfl) rfl rfl (v_loadA (ov rfl) rfl rfl rfl tA65 rfl rfl) ?_
       obtain ⟨y8, h_y8, h⟩ := bnd h
       refine D_q0 7 _ rfl (by kernel_rfl) rfl rfl (v_call (ok_panel_faces h_y8) (.cons (ov rfl) (.aggB rfl) <| .cons (ov rfl) (.b rfl) <| .cons (ov rfl) (.aggB rfl) <| .nil)) ?_
       refine D_q0 8 _ rfl (by kernel_rfl) rfl rfl (v_assign (ov rfl)) ?_
       refine D_q0 9 _ rfl (by kernel_rfl) rfl rfl (v_assign (ov rfl)) ?_
       refine D_done (by kernel_rfl) ?_
       refine T_keep (kc 1 rfl <| kc 2 rfl <| kc 4 rfl <| kc 15 rfl <| kc 16 rfl <| kc 17 rfl <| kc 18 rfl <| kc 19 rfl <| kc 44 rfl <| kc 45 rfl <| kn) rfl ?_
       refine T_seq (T_reg ?_)
       refine R_q _ rfl (v_move (ov rfl)) ?_
       refine R_q _ rfl (v_len (slv_sl (ov rfl) tZ_57) tL51 (len_map _ _)) ?_
       refine R_q _ rfl (v_move (ov rfl)) ?_
       refine R_nil ?_
       refine T_block ?_
       obtain ⟨r3, hl3, ho3⟩ := bndL h
       refine T_loopG _ (t1 fun i3 => ⟨[(1, .sl 26 (List.map R26 a)), (2, .sl 26 (List.map R26 b)), (4, .rp [.sl 55 (List.map R55 p.Instruments)] 0), (15, .ptr 0 1 0 0), (16, .ptr 1 1 0 0), (17, .int .i64 i2), (18, .sl 57 (List.map R57 y7)), (19, .sl 57 (List.map R57 y8)), (44, .int .i64 (i64 (to + 1))), (45, .int .i64 i2), (65, .int .i64 (y7.length : Int)), (66, .int .i64 i3)], [some ⟨65, [[.int .i64 y5.Frame, .sl 129 (List.map R129 y5.Memos)]]⟩, some ⟨65, [[.int .i64 y6.Frame, .sl 129 (List.map R129 y6.Memos)]]⟩]⟩) _ hl3 (Ent.sel [some 0, some 1] (sd 1 rfl rfl <| sd 2 rfl rfl <| sd 4 rfl rfl <| sr 15 rfl (.ptr _ _ _ rfl) <| sr 16 rfl (.ptr _ _ _ rfl) <| sd 17 rfl rfl <| sd 18 rfl rfl <| sd 19 rfl rfl <| sd 44 rfl rfl <| sd 45 rfl rfl <| sd 65 rfl rfl <| sd 66 rfl rfl <| sn) (.cons rfl (ro1 (by exact tZ_65.symm) (rld rfl)) <| .cons rfl (ro1 (by exact tZ_65.symm) (rld rfl)) <| .nil) rfl rfl) (fun n3 s3 h => ?_)
       obtain ⟨i3, rfl⟩ : ∃ x, x = s3 := ⟨_, rfl⟩
       replace h := t1i h
       refine t1T ?_
       unfold panel_Differ_L3 at h
       refine T_seq (T_reg ?_)
       refine R_q _ rfl (v_lss (ov rfl) (ov rfl)) ?_
       refine R_nil ?_
       refine T_seq ?_
       refine T_if h rfl (fun b67 h => ?_) (fun b67 h => ?_)
       ·
        refine T_skip ?_
        refine T_seq ?_
        refine T_block ?_
        refine T_keep (kc 1 rfl <| kc 2 rfl <| kc 4 rfl <| kc 15 rfl <| kc 16 rfl <| kc 17 rfl <| kc 18 rfl <| kc 19 rfl <| kc 44 rfl <| kc 45 rfl <| kc 65 rfl <| kc 66 rfl <| kn) rfl ?_
        refine T_seq (T_reg ?_)
        refine R_q _ rfl (v_move (ov rfl)) ?_
        refine R_q _ rfl (v_assign (ov rfl)) ?_
        refine R_nil ?_
        refine T_keep (kc 1 rfl <| kc 2 rfl <| kc 4 rfl <| kc 15 rfl <| kc 16 rfl <| kc 17 rfl <| kc 18 rfl <| kc 19 rfl <| kc 20 rfl <| kc 44 rfl <| kc 45 rfl <| kc 65 rfl <| kc 66 rfl <| kn) rfl ?_
        refine T_seq (T_draw (cw := md0) (by kernel_rfl) ?_)
        refine D_q0 0 _ rfl (by kernel_rfl) rfl rfl (v_move (ov rfl)) ?_
        refine D_q0 1 _ rfl (by kernel_rfl) rfl rfl (v_move (ov rfl)) ?_
        obtain ⟨x2, h_x2, h⟩ := bnd h
        refine D_q0 2 _ rfl (by kernel_rfl) rfl rfl (v_ixSG (ov rfl) (ov rfl) tL51 h_x2) ?_
        refine D_q0 3 _ rfl (by kernel_rfl) rfl rfl (v_loadA_r (ov rfl) tA57 rfl rfl) ?_
        refine D_q0 4 _ rfl (by kernel_rfl) rfl rfl (v_move (ov rfl)) ?_
        refine D_q0 5 _ rfl (by kernel_rfl) rfl rfl (v_move (ov rfl)) ?_
        obtain ⟨x3, h_x3, h⟩ := bnd h
        refine D_q0 6 _ rfl (by kernel_rfl) rfl rfl (v_ixSG (ov rfl) (ov rfl) tL51 h_x3) ?_
        refine D_q0 7 _ rfl (by kernel_rfl) rfl rfl (v_loadA_r (ov rfl) tA57 rfl rfl) ?_
        refine D_q0 8 _ rfl (by kernel_rfl) rfl rfl (v_neqS tFS57 (ov rfl) (ov rfl) (.aggB rfl) (.aggB rfl) rfl rfl) ?_
        refine D_done (by kernel_rfl) ?_
        refine T_keep (kc 1 rfl <| kc 2 rfl <| kc 4 rfl <| kc 15 rfl <| kc 16 rfl <| kc 17 rfl <| kc 18 rfl <| kc 19 rfl <| kc 20 rfl <| kc 44 rfl <| kc 45 rfl <| kc 65 rfl <| kc 66 rfl <| kc 77 rfl <| kn) rfl ?_
        refine T_if h rfl (fun b77 h => ?_) (fun b77 h => ?_)
        ·
         refine T_keep (kc 17 rfl <| kc 20 rfl <| kn) rfl ?_
         refine T_seq (T_reg ?_)
         refine R_q _ rfl (v_move (ov rfl)) ?_
         refine R_q _ rfl (v_move (ov rfl)) ?_
         refine R_q _ rfl (v_assign (ov rfl)) ?_
         refine R_q _ rfl (v_assign (ov rfl)) ?_
         refine R_q _ rfl (v_assign (ov rfl)) ?_
         refine R_q _ rfl (v_assign (ov rfl)) ?_
         refine R_nil ?_
         rw [lx h] at ho3
         replace h := ho3
         rw [lx h] at ho2
         replace h := ho2
         obtain rfl := rt (v := (i2, i3, true, 0)) h
         refine T_ret (retq ?_ (.four (.tmp rfl (Dat.view (.b rfl))) (.tmp rfl (Dat.view (.b rfl))) (.tmp rfl (Dat.view (.b rfl))) (.tmp rfl (Dat.view (.b rfl)))))
         rfl
        ·
         refine T_skip ?_
         refine T_keep (kc 1 rfl <| kc 2 rfl <| kc 4 rfl <| kc 15 rfl <| kc 16 rfl <| kc 17 rfl <| kc 18 rfl <| kc 19 rfl <| kc 44 rfl <| kc 45 rfl <| kc 65 rfl <| kc 66 rfl <| kn) rfl ?_
         refine T_reg ?_
         refine R_q _ rfl (v_add (ov rfl) (ov rfl) rfl) ?_
         refine R_q _ rfl (v_move (ov rfl)) ?_
         refine R_nil ?_
         exact ⟨(i64 (i3 + 1)), h, Ent.sel [some 0, some 1] (sd 1 rfl rfl <| sd 2 rfl rfl <| sd 4 rfl rfl <| sr 15 rfl (.ptr _ _ _ rfl) <| sr 16 rfl (.ptr _ _ _ rfl) <| sd 17 rfl rfl <| sd 18 rfl rfl <| sd 19 rfl rfl <| sd 44 rfl rfl <| sd 45 rfl rfl <| sd 65 rfl rfl <| sd 66 rfl rfl <| sn) (.cons rfl (ro1 (by exact tZ_65.symm) (rld rfl)) <| .cons rfl (ro1 (by exact tZ_65.symm) (rld rfl)) <| .nil) rfl rfl⟩
       ·
        refine T_exit ?_
        rw [lx h] at ho3
        replace h := ho3
        exact ⟨(y5, y6), h, Ent.sel [some 0, some 1] (sd 1 rfl rfl <| sd 2 rfl rfl <| sd 4 rfl rfl <| sr 15 rfl (.ptr _ _ _ rfl) <| sr 16 rfl (.ptr _ _ _ rfl) <| sd 44 rfl rfl <| sd 45 rfl rfl <| sn) (.cons rfl (ro1 (by exact tZ_65.symm) (rld rfl)) <| .cons rfl (ro1 (by exact tZ_65.symm) (rld rfl)) <| .nil) rfl rfl⟩
      ·
       replace h := elr h
       obtain ⟨s2, t2⟩ := j
       replace h := t2i h
       refine t2T ?_
       refine T_reg ?_
       refine R_q _ rfl (v_add (ov rfl) (ov rfl) rfl) ?_
       refine R_q _ rfl (v_move (ov rfl)) ?_
       refine R_nil ?_
       exact ⟨(s2, t2, (i64 (i2 + 1))), h, Ent.sel [some 0, some 1] (sd 1 rfl rfl <| sd 2 rfl rfl <| sd 4 rfl rfl <| sr 15 rfl (.ptr _ _ _ rfl) <| sr 16 rfl (.ptr _ _ _ rfl) <| sd 44 rfl rfl <| sd 45 rfl rfl <| sn) (.cons rfl (ro1 (by exact tZ_65.symm) (rld rfl)) <| .cons rfl (ro1 (by exact tZ_65.symm) (rld rfl)) <| .nil) rfl rfl⟩
     ·
      refine T_exit ?_
      rw [lx h] at ho2
      replace h := ho2
      exact ⟨(), h, Ent.sel [] (sn) (.nil) rfl rfl⟩
    ·
     replace h := elr h
     cases j
     replace h := t0i h
     refine t0T ?_
     refine T_seq (T_reg ?_)
     refine R_q _ rfl (v_assign (ov rfl)) ?_
     refine R_q _ rfl (v_assign (ov rfl)) ?_
     refine R_q _ rfl (v_assign (ov rfl)) ?_
     refine R_q _ rfl (v_assign (ov rfl)) ?_
     refine R_nil ?_
     obtain rfl := rt (v := (0, 0, false, 0)) h
     refine T_ret (retq ?_ (.four (.tmp rfl (Dat.view (.b rfl))) (.tmp rfl (Dat.view (.b rfl))) (.tmp rfl (Dat.view (.b rfl))) (.tmp rfl (Dat.view (.b rfl)))))
     rfl

theorem ok_ref8_outside {n : Int} {low : Int} {high : Int} {r : Bool} (h : ref8_outside n low high = some r) :
  CSpec Tryz.prog gl0 62 [.int .i64 n, .int .i64 low, .int .i64 high] (.bool r) := by
 unfold ref8_outside at h
 replace h := bnd0 h
 refine spec_of (by kernel_rfl) Tryz.func62 rfl rfl ?_
 intro w0 A
 refine T_seq (T_reg ?_)
 refine R_q _ rfl (v_assign (ov rfl)) ?_
 refine R_nil ?_
 refine T_seq (T_reg ?_)
 refine R_q _ rfl (v_move (ov rfl)) ?_
 refine R_q _ rfl (v_move (ov rfl)) ?_
 refine R_q _ rfl (v_lss (ov rfl) (ov rfl)) ?_
 refine R_q _ rfl (v_move (ov rfl)) ?_
 refine R_q _ rfl (.guarded ((decide (n < low)) == false) rfl rfl rfl rfl fun h => v_move (ov rfl)) ?_
 refine R_q _ rfl (.guarded ((decide (n < low)) == false) rfl rfl rfl rfl fun h => v_move (ov rfl)) ?_
 refine R_q _ rfl (.guarded ((decide (n < low)) == false) rfl rfl rfl rfl fun h => v_gtr (ow rfl h) (ow rfl h)) ?_
 refine R_q _ rfl (v_or (ov rfl) (fun hp => ow rfl (gF hp))) ?_
 refine R_q _ rfl (v_assign (ov rfl)) ?_
 refine R_nil ?_
 obtain rfl := rt (v := ((decide (n < low)) || (decide (high < n)))) h
 refine T_ret (retq ?_ (.one (.tmp rfl (Dat.view (.b rfl)))))
 rfl

theorem ok_ref8_isName {s : Str} {r : Bool} (h : ref8_isName s = some r) :
  CSpec Tryz.prog gl0 91 [.str s] (.bool r) := by
 unfold ref8_isName at h
 replace h := bnd0 h
 refine spec_of (by kernel_rfl) Tryz.func91 rfl rfl ?_
 intro w0 A
 refine T_seq (T_reg ?_)
 refine R_q _ rfl (v_assign (ov rfl)) ?_
 refine R_nil ?_
 refine T_joinG (fun j => (.inr j)) (t0 ⟨[(0, .str s)], []⟩) h (fun h => ?_) (fun j h => ?_)
 ·
  refine T_keep (kc 0 rfl <| kn) rfl ?_
  refine T_seq (T_reg ?_)
  refine R_q _ rfl (v_assign (ov rfl)) ?_
  refine R_nil ?_
  refine T_block ?_
  obtain ⟨r1, hl1, ho1⟩ := bndL h
  refine T_loopG _ (t1 fun i => ⟨[(0, .str s), (3, .int .i64 i)], []⟩) _ hl1 (Ent.sel [] (sd 0 rfl rfl <| sd 3 rfl rfl <| sn) (.nil) rfl rfl) (fun n1 s1 h => ?_)
  obtain ⟨i, rfl⟩ : ∃ x, x = s1 := ⟨_, rfl⟩
  replace h := t1i h
  refine t1T ?_
  unfold ref8_isName_L1 at h
  refine T_seq ?_
  refine T_seq (T_reg ?_)
  refine R_q _ rfl (v_move (ov rfl)) ?_
  refine R_q _ rfl (v_move (ov rfl)) ?_
  refine R_q _ rfl (v_lenStr (ov rfl) tStr9 rfl) ?_
  refine R_q _ rfl (v_lss (ov rfl) (ov rfl)) ?_
  refine R_nil ?_
  refine T_keep (kc 0 rfl <| kc 3 rfl <| kc 8 rfl <| kn) rfl ?_
  refine T_if h rfl (fun b8 h => ?_) (fun b8 h => ?_)
  ·
   refine T_skip ?_
   refine T_seq ?_
   refine T_block ?_
   refine T_keep (kc 0 rfl <| kc 3 rfl <| kn) rfl ?_
   refine T_seq (T_reg ?_)
   refine R_q _ rfl (v_move (ov rfl)) ?_
   refine R_q _ rfl (v_move (ov rfl)) ?_
   obtain ⟨b, h_b, h⟩ := bnd h
   refine R_q _ rfl (v_idxStr (ov rfl) (ov rfl) tStr9 h_b) ?_
   refine R_q _ rfl (v_assign (ov rfl)) ?_
   refine R_nil ?_
   refine T_keep (kc 0 rfl <| kc 3 rfl <| kc 4 rfl <| kn) rfl ?_
   refine T_seq (T_reg ?_)
   refine R_q _ rfl (v_move (ov rfl)) ?_
   refine R_q _ rfl (v_geq (ov rfl) (ov rfl)) ?_
   refine R_q _ rfl (v_move (ov rfl)) ?_
   refine R_q _ rfl (.guarded ((decide (97 ≤ b)) == true) rfl rfl rfl rfl fun h => v_move (ov rfl)) ?_
   refine R_q _ rfl (.guarded ((decide (97 ≤ b)) == true) rfl rfl rfl rfl fun h => v_leq (ow rfl h) (ov rfl)) ?_
   refine R_q _ rfl (v_and (ov rfl) (fun hp => ow rfl (gT hp))) ?_
   refine R_q _ rfl (v_move (ov rfl)) ?_
   refine R_q _ rfl (.guarded (((decide (97 ≤ b)) && (decide (b ≤ 122))) == false) rfl rfl rfl rfl fun h => v_move (ov rfl)) ?_
   refine R_q _ rfl (.guarded (((decide (97 ≤ b)) && (decide (b ≤ 122))) == false) rfl rfl rfl rfl fun h => v_geq (ow rfl h) (ov rfl)) ?_
   refine R_q _ rfl (.guarded (((decide (97 ≤ b)) && (decide (b ≤ 122))) == false) rfl rfl rfl rfl fun h => v_move (ow rfl h)) ?_
   refine R_q _ rfl (.guarded2 ((((decide (97 ≤ b)) && (decide (b ≤ 122))) == false) && ((decide (48 ≤ b)) == true)) rfl rfl rfl rfl fun h => v_move (ov rfl)) ?_
   refine R_q _ rfl (.guarded2 ((((decide (97 ≤ b)) && (decide (b ≤ 122))) == false) && ((decide (48 ≤ b)) == true)) rfl rfl rfl rfl fun h => v_leq (ow rfl h) (ov rfl)) ?_
   refine R_q _ rfl (.guarded (((decide (97 ≤ b)) && (decide (b ≤ 122))) == false) rfl rfl rfl rfl fun h => v_and (ow rfl h) (fun hp => ow rfl (gA h (gT hp)))) ?_
   refine R_q _ rfl (v_or (ov rfl) (fun hp => ow rfl (gF hp))) ?_
   refine R_q _ rfl (v_move (ov rfl)) ?_
   refine R_q _ rfl (.guarded ((((decide (97 ≤ b)) && (decide (b ≤ 122))) || ((decide (48 ≤ b)) && (decide (b ≤ 57)))) == false) rfl rfl rfl rfl fun h => v_move (ov rfl)) ?_
   refine R_q _ rfl (.guarded ((((decide (97 ≤ b)) && (decide (b ≤ 122))) || ((decide (48 ≤ b)) && (decide (b ≤ 57)))) == false) rfl rfl rfl rfl fun h => v_eql (ow rfl h) (ov rfl)) ?_
   refine R_q _ rfl (v_or (ov rfl) (fun hp => ow rfl (gF hp))) ?_
   refine R_q _ rfl (v_not (ov rfl)) ?_
   refine R_nil ?_
   refine T_keep (kc 0 rfl <| kc 3 rfl <| kc 32 rfl <| kn) rfl ?_
   refine T_if h rfl (fun b32 h => ?_) (fun b32 h => ?_)
   ·
    refine T_keep (kn) rfl ?_
    refine T_seq (T_reg ?_)
    refine R_q _ rfl (v_assign (ov rfl)) ?_
    refine R_nil ?_
    rw [lx h] at ho1
    replace h := ho1
    obtain rfl := rt (v := false) h
    refine T_ret (retq ?_ (.one (.tmp rfl (Dat.view (.b rfl)))))
    rfl
   ·
    refine T_skip ?_
    refine T_keep (kc 0 rfl <| kc 3 rfl <| kn) rfl ?_
    refine T_reg ?_
    refine R_q _ rfl (v_move (ov rfl)) ?_
    refine R_q _ rfl (v_add (ov rfl) (ov rfl) rfl) ?_
    refine R_q _ rfl (v_assign (ov rfl)) ?_
    refine R_nil ?_
    exact ⟨(i64 (i + 1)), h, Ent.sel [] (sd 0 rfl rfl <| sd 3 rfl rfl <| sn) (.nil) rfl rfl⟩
  ·
   refine T_exit ?_
   rw [lx h] at ho1
   replace h := ho1
   exact ⟨(), h, Ent.sel [] (sd 0 rfl rfl <| sn) (.nil) rfl rfl⟩
 ·
  replace h := elr h
  cases j
  replace h := t0i h
  refine t0T ?_
  refine T_seq (T_reg ?_)
  refine R_q _ rfl (v_move (ov rfl)) ?_
  refine R_q _ rfl (v_lenStr (ov rfl) tStr9 rfl) ?_
  refine R_q _ rfl (v_geq (ov rfl) (ov rfl)) ?_
  refine R_q _ rfl (v_move (ov rfl)) ?_
  refine R_q _ rfl (.guarded ((decide (1 ≤ (s.length : Int))) == true) rfl rfl rfl rfl fun h => v_move (ov rfl)) ?_
  refine R_q _ rfl (.guarded ((decide (1 ≤ (s.length : Int))) == true) rfl rfl rfl rfl fun h => v_lenStr (ow rfl h) tStr9 rfl) ?_
  refine R_q _ rfl (.guarded ((decide (1 ≤ (s.length : Int))) == true) rfl rfl rfl rfl fun h => v_leq (ow rfl h) (ov rfl)) ?_
  refine R_q _ rfl (v_and (ov rfl) (fun hp => ow rfl (gT hp))) ?_
  refine R_q _ rfl (v_assign (ov rfl)) ?_
  refine R_nil ?_
  obtain rfl := rt (v := ((decide (1 ≤ (s.length : Int))) && (decide ((s.length : Int) ≤ 30)))) h
  refine T_ret (retq ?_ (.one (.tmp rfl (Dat.view (.b rfl)))))
  rfl

theorem ok_ref8_has {kind : Int} {l : List Int} {r : Bool} (h : ref8_has kind l = some r) :
  CSpec Tryz.prog gl0 146 [.int .i64 kind, .sl 3 (List.map R3 l)] (.bool r) := by
 unfold ref8_has at h
 replace h := bnd0 h
 refine spec_of (by kernel_rfl) Tryz.func146 rfl rfl ?_
 intro w0 A
 refine T_seq (T_reg ?_)
 refine R_q _ rfl (v_assign (ov rfl)) ?_
 refine R_nil ?_
 refine T_joinG (fun j => (.inr j)) (t0 ⟨[], []⟩) h (fun h => ?_) (fun j h => ?_)
 ·
  refine T_keep (kc 0 rfl <| kc 1 rfl <| kn) rfl ?_
  refine T_seq (T_reg ?_)
  refine R_q _ rfl (v_move (ov rfl)) ?_
  refine R_q _ rfl (v_len (slv_sl (ov rfl) tZ_3) tL127 (len_map _ _)) ?_
  refine R_q _ rfl (v_move (ov rfl)) ?_
  refine R_nil ?_
  refine T_block ?_
  obtain ⟨r1, hl1, ho1⟩ := bndL h
  refine T_loopG _ (t1 fun i => ⟨[(0, .int .i64 kind), (7, .sl 3 (List.map R3 l)), (8, .int .i64 (l.length : Int)), (9, .int .i64 i)], []⟩) _ hl1 (Ent.sel [] (sd 0 rfl rfl <| sd 7 rfl rfl <| sd 8 rfl rfl <| sd 9 rfl rfl <| sn) (.nil) rfl rfl) (fun n1 s1 h => ?_)
  obtain ⟨i, rfl⟩ : ∃ x, x = s1 := ⟨_, rfl⟩
  replace h := t1i h
  refine t1T ?_
  unfold ref8_has_L1 at h
  refine T_seq (T_reg ?_)
  refine R_q _ rfl (v_lss (ov rfl) (ov rfl)) ?_
  refine R_nil ?_
  refine T_seq ?_
  refine T_if h rfl (fun b10 h => ?_) (fun b10 h => ?_)
  ·
   refine T_skip ?_
   refine T_seq ?_
   refine T_block ?_
   refine T_keep (kc 0 rfl <| kc 7 rfl <| kc 8 rfl <| kc 9 rfl <| kn) rfl ?_
   refine T_seq (T_reg ?_)
   obtain ⟨x, h_x, h⟩ := bnd h
   refine R_q _ rfl (v_ixSG (ov rfl) (ov rfl) tL127 h_x) ?_
   refine R_q _ rfl (v_loadS_r (ov rfl) tS3 rfl) ?_
   refine R_q _ rfl (v_assign (ov rfl)) ?_
   refine R_nil ?_
   refine T_keep (kc 0 rfl <| kc 6 rfl <| kc 7 rfl <| kc 8 rfl <| kc 9 rfl <| kn) rfl ?_
   refine T_seq (T_reg ?_)
   refine R_q _ rfl (v_move (ov rfl)) ?_
   refine R_q _ rfl (v_move (ov rfl)) ?_
   refine R_q _ rfl (v_eql (ov rfl) (ov rfl)) ?_
   refine R_nil ?_
   refine T_keep (kc 0 rfl <| kc 7 rfl <| kc 8 rfl <| kc 9 rfl <| kc 15 rfl <| kn) rfl ?_
   refine T_if h rfl (fun b15 h => ?_) (fun b15 h => ?_)
   ·
    refine T_keep (kn) rfl ?_
    refine T_seq (T_reg ?_)
    refine R_q _ rfl (v_assign (ov rfl)) ?_
    refine R_nil ?_
    rw [lx h] at ho1
    replace h := ho1
    obtain rfl := rt (v := true) h
    refine T_ret (retq ?_ (.one (.tmp rfl (Dat.view (.b rfl)))))
    rfl
   ·
    refine T_skip ?_
    refine T_keep (kc 0 rfl <| kc 7 rfl <| kc 8 rfl <| kc 9 rfl <| kn) rfl ?_
    refine T_reg ?_
    refine R_q _ rfl (v_add (ov rfl) (ov rfl) rfl) ?_
    refine R_q _ rfl (v_move (ov rfl)) ?_
    refine R_nil ?_
    exact ⟨(i64 (i + 1)), h, Ent.sel [] (sd 0 rfl rfl <| sd 7 rfl rfl <| sd 8 rfl rfl <| sd 9 rfl rfl <| sn) (.nil) rfl rfl⟩
  ·
   refine T_exit ?_
   rw [lx h] at ho1
   replace h := ho1
   exact ⟨(), h, Ent.sel [] (sn) (.nil) rfl rfl⟩
 ·
  replace h := elr h
  cases j
  replace h := t0i h
  refine t0T ?_
  refine T_seq (T_reg ?_)
  refine R_q _ rfl (v_assign (ov rfl)) ?_
  refine R_nil ?_
  obtain rfl := rt (v := false) h
  refine T_ret (retq ?_ (.one (.tmp rfl (Dat.view (.b rfl)))))
  rfl

theorem ok_ref8_unused {i : api_Instrument} {r : Bool} (h : ref8_unused i = some r) :
  CSpec Tryz.prog gl0 92 [.agg [.int .i64 i.Kind, .str i.Name, .str i.Track, .int .i64 i.Places, .int .i64 i.Low, .int .i64 i.High, .int .i64 i.Steps, .sl 169 (List.map R169 i.Zones), .int .i64 i.Op, .int .i64 i.N, .bool i.Latch, .int .i64 i.Size]] (.bool r) := by
 unfold ref8_unused at h
 replace h := bnd0 h
 refine spec_of (by kernel_rfl) Tryz.func92 rfl rfl ?_
 intro w0 A
 refine T_seq (T_reg ?_)
 refine R_q _ rfl (v_boxD (cva (ov rfl)) rfl tZ_55 rfl) ?_
 refine R_q _ rfl (v_assign (ov rfl)) ?_
 refine R_nil ?_
 refine T_keep (kc 1 rfl <| kn) rfl ?_
 refine T_seq (T_reg ?_)
 refine R_q _ rfl (v_fieldR (ov rfl) tF55_0) ?_
 refine R_q _ rfl (v_loadS_r (ov rfl) tS3 rfl) ?_
 refine R_q _ rfl (v_eql (ov rfl) (ov rfl)) ?_
 refine R_q _ rfl (v_assign (ov rfl)) ?_
 refine R_nil ?_
 refine T_seq ?_
 refine T_block ?_
 refine T_keep (kc 1 rfl <| kc 3 rfl <| kn) rfl ?_
 refine T_seq (T_reg ?_)
 refine R_q _ rfl (v_fieldR (ov rfl) tF55_3) ?_
 refine R_q _ rfl (v_loadS_r (ov rfl) tS3 rfl) ?_
 refine R_q _ rfl (v_neq (ov rfl) (ov rfl)) ?_
 refine R_q _ rfl (v_move (ov rfl)) ?_
 refine R_q _ rfl (.guarded ((!decide (i.Places = 0)) == true) rfl rfl rfl rfl fun h => v_fieldR (ov rfl) tF55_0) ?_
 refine R_q _ rfl (.guarded ((!decide (i.Places = 0)) == true) rfl rfl rfl rfl fun h => v_loadS_r (ow rfl h) tS3 rfl) ?_
 refine R_q (.when ((!decide (i.Places = 0)) == true) (.sl 3 (List.map R3 ([1, 4, 6] : List Int)))) rfl (.guarded ((!decide (i.Places = 0)) == true) rfl rfl rfl rfl fun h => v_lit tL127 (.cons (cvs (ov rfl) (cell1_b rfl)) rfl (.cons (.b rfl) .nil) <| .cons (cvs (ov rfl) (cell1_b rfl)) rfl (.cons (.b rfl) .nil) <| .cons (cvs (ov rfl) (cell1_b rfl)) rfl (.cons (.b rfl) .nil) <| .nil) rfl rfl) ?_
 obtain ⟨y, h_y, h⟩ := bnd h
 refine R_q _ rfl (.guarded ((!decide (i.Places = 0)) == true) rfl rfl rfl rfl fun h => v_call (ok_ref8_has (gdT h_y h)) (.cons (ow rfl h) (.b rfl) <| .cons (ow rfl h) (.b rfl) <| .nil)) ?_
 refine R_q _ rfl (.guarded ((!decide (i.Places = 0)) == true) rfl rfl rfl rfl fun h => v_not (ow rfl h)) ?_
 refine R_q _ rfl (v_and (ov rfl) (fun hp => ow rfl (gT hp))) ?_
 refine R_q _ rfl (v_assign (ov rfl)) ?_
 refine R_nil ?_
 refine T_keep (kc 1 rfl <| kc 3 rfl <| kc 7 rfl <| kn) rfl ?_
 refine T_if h rfl (fun b7 h => ?_) (fun b7 h => ?_)
 ·
  refine T_keep (kn) rfl ?_
  refine T_seq (T_reg ?_)
  refine R_q _ rfl (v_assign (ov rfl)) ?_
  refine R_nil ?_
  obtain rfl := rt (v := true) h
  refine T_ret (retq ?_ (.one (.tmp rfl (Dat.view (.b rfl)))))
  rfl
 ·
  refine T_keep (kc 1 rfl <| kc 3 rfl <| kn) rfl ?_
  refine T_seq (T_reg ?_)
  refine R_q _ rfl (v_move (ov rfl)) ?_
  refine R_q _ rfl (v_not (ov rfl)) ?_
  refine R_q _ rfl (v_move (ov rfl)) ?_
  refine R_q _ rfl (.guarded ((!(decide (i.Kind = 2))) == true) rfl rfl rfl rfl fun h => v_fieldR (ov rfl) tF55_4) ?_
  refine R_q _ rfl (.guarded ((!(decide (i.Kind = 2))) == true) rfl rfl rfl rfl fun h => v_loadS_r (ow rfl h) tS3 rfl) ?_
  refine R_q _ rfl (.guarded ((!(decide (i.Kind = 2))) == true) rfl rfl rfl rfl fun h => v_neq (ow rfl h) (ov rfl)) ?_
  refine R_q _ rfl (.guarded ((!(decide (i.Kind = 2))) == true) rfl rfl rfl rfl fun h => v_move (ow rfl h)) ?_
  refine R_q _ rfl (.guarded2 (((!(decide (i.Kind = 2))) == true) && ((!decide (i.Low = 0)) == false)) rfl rfl rfl rfl fun h => v_fieldR (ov rfl) tF55_5) ?_
  refine R_q _ rfl (.guarded2 (((!(decide (i.Kind = 2))) == true) && ((!decide (i.Low = 0)) == false)) rfl rfl rfl rfl fun h => v_loadS_r (ow rfl h) tS3 rfl) ?_
  refine R_q _ rfl (.guarded2 (((!(decide (i.Kind = 2))) == true) && ((!decide (i.Low = 0)) == false)) rfl rfl rfl rfl fun h => v_neq (ow rfl h) (ov rfl)) ?_
  refine R_q _ rfl (.guarded ((!(decide (i.Kind = 2))) == true) rfl rfl rfl rfl fun h => v_or (ow rfl h) (fun hp => ow rfl (gA h (gF hp)))) ?_
  refine R_q _ rfl (.guarded ((!(decide (i.Kind = 2))) == true) rfl rfl rfl rfl fun h => v_move (ow rfl h)) ?_
  refine R_q _ rfl (.guarded2 (((!(decide (i.Kind = 2))) == true) && (((!decide (i.Low = 0)) || (!decide (i.High = 0))) == false)) rfl rfl rfl rfl fun h => v_fieldR (ov rfl) tF55_6) ?_
  refine R_q _ rfl (.guarded2 (((!(decide (i.Kind = 2))) == true) && (((!decide (i.Low = 0)) || (!decide (i.High = 0))) == false)) rfl rfl rfl rfl fun h => v_loadS_r (ow rfl h) tS3 rfl) ?_
  refine R_q _ rfl (.guarded2 (((!(decide (i.Kind = 2))) == true) && (((!decide (i.Low = 0)) || (!decide (i.High = 0))) == false)) rfl rfl rfl rfl fun h => v_neq (ow rfl h) (ov rfl)) ?_
  refine R_q _ rfl (.guarded ((!(decide (i.Kind = 2))) == true) rfl rfl rfl rfl fun h => v_or (ow rfl h) (fun hp => ow rfl (gA h (gF hp)))) ?_
  refine R_q _ rfl (.guarded ((!(decide (i.Kind = 2))) == true) rfl rfl rfl rfl fun h => v_move (ow rfl h)) ?_
  refine R_q _ rfl (.guarded2 (((!(decide (i.Kind = 2))) == true) && ((((!decide (i.Low = 0)) || (!decide (i.High = 0))) || (!decide (i.Steps = 0))) == false)) rfl rfl rfl rfl fun h => v_fieldR (ov rfl) tF55_7) ?_
  refine R_q _ rfl (.guarded2 (((!(decide (i.Kind = 2))) == true) && ((((!decide (i.Low = 0)) || (!decide (i.High = 0))) || (!decide (i.Steps = 0))) == false)) rfl rfl rfl rfl fun h => v_loadS_r (ow rfl h) tS53 rfl) ?_
  refine R_q _ rfl (.guarded2 (((!(decide (i.Kind = 2))) == true) && ((((!decide (i.Low = 0)) || (!decide (i.High = 0))) || (!decide (i.Steps = 0))) == false)) rfl rfl rfl rfl fun h => v_len (slv_sl (ow rfl h) tZ_169) tL53 (len_map _ _)) ?_
  refine R_q _ rfl (.guarded2 (((!(decide (i.Kind = 2))) == true) && ((((!decide (i.Low = 0)) || (!decide (i.High = 0))) || (!decide (i.Steps = 0))) == false)) rfl rfl rfl rfl fun h => v_gtr (ow rfl h) (ov rfl)) ?_
  refine R_q _ rfl (.guarded ((!(decide (i.Kind = 2))) == true) rfl rfl rfl rfl fun h => v_or (ow rfl h) (fun hp => ow rfl (gA h (gF hp)))) ?_
  refine R_q _ rfl (v_and (ov rfl) (fun hp => ow rfl (gT hp))) ?_
  refine R_q _ rfl (v_assign (ov rfl)) ?_
  refine R_nil ?_
  refine T_keep (kc 1 rfl <| kc 18 rfl <| kn) rfl ?_
  refine T_if h rfl (fun b18 h => ?_) (fun b18 h => ?_)
  ·
   refine T_keep (kn) rfl ?_
   refine T_seq (T_reg ?_)
   refine R_q _ rfl (v_assign (ov rfl)) ?_
   refine R_nil ?_
   obtain rfl := rt (v := true) h
   refine T_ret (retq ?_ (.one (.tmp rfl (Dat.view (.b rfl)))))
   rfl
  ·
   refine T_keep (kc 1 rfl <| kn) rfl ?_
   refine T_seq (T_reg ?_)
   refine R_q _ rfl (v_fieldR (ov rfl) tF55_8) ?_
   refine R_q _ rfl (v_loadS_r (ov rfl) tS3 rfl) ?_
   refine R_q _ rfl (v_neq (ov rfl) (ov rfl)) ?_
   refine R_q _ rfl (v_move (ov rfl)) ?_
   refine R_q _ rfl (.guarded ((!decide (i.Op = 0)) == false) rfl rfl rfl rfl fun h => v_fieldR (ov rfl) tF55_9) ?_
   refine R_q _ rfl (.guarded ((!decide (i.Op = 0)) == false) rfl rfl rfl rfl fun h => v_loadS_r (ow rfl h) tS3 rfl) ?_
   refine R_q _ rfl (.guarded ((!decide (i.Op = 0)) == false) rfl rfl rfl rfl fun h => v_neq (ow rfl h) (ov rfl)) ?_
   refine R_q _ rfl (v_or (ov rfl) (fun hp => ow rfl (gF hp))) ?_
   refine R_q _ rfl (v_move (ov rfl)) ?_
   refine R_q _ rfl (.guarded (((!decide (i.Op = 0)) || (!decide (i.N = 0))) == true) rfl rfl rfl rfl fun h => v_fieldR (ov rfl) tF55_0) ?_
   refine R_q _ rfl (.guarded (((!decide (i.Op = 0)) || (!decide (i.N = 0))) == true) rfl rfl rfl rfl fun h => v_loadS_r (ow rfl h) tS3 rfl) ?_
   refine R_q (.when (((!decide (i.Op = 0)) || (!decide (i.N = 0))) == true) (.sl 3 (List.map R3 ([3, 5] : List Int)))) rfl (.guarded (((!decide (i.Op = 0)) || (!decide (i.N = 0))) == true) rfl rfl rfl rfl fun h => v_lit tL127 (.cons (cvs (ov rfl) (cell1_b rfl)) rfl (.cons (.b rfl) .nil) <| .cons (cvs (ov rfl) (cell1_b rfl)) rfl (.cons (.b rfl) .nil) <| .nil) rfl rfl) ?_
   obtain ⟨y2, h_y2, h⟩ := bnd h
   refine R_q _ rfl (.guarded (((!decide (i.Op = 0)) || (!decide (i.N = 0))) == true) rfl rfl rfl rfl fun h => v_call (ok_ref8_has (gdT h_y2 h)) (.cons (ow rfl h) (.b rfl) <| .cons (ow rfl h) (.b rfl) <| .nil)) ?_
   refine R_q _ rfl (.guarded (((!decide (i.Op = 0)) || (!decide (i.N = 0))) == true) rfl rfl rfl rfl fun h => v_not (ow rfl h)) ?_
   refine R_q _ rfl (v_and (ov rfl) (fun hp => ow rfl (gT hp))) ?_
   refine R_q _ rfl (v_assign (ov rfl)) ?_
   refine R_nil ?_
   refine T_keep (kc 1 rfl <| kc 42 rfl <| kn) rfl ?_
   refine T_if h rfl (fun b42 h => ?_) (fun b42 h => ?_)
   ·
    refine T_keep (kn) rfl ?_
    refine T_seq (T_reg ?_)
    refine R_q _ rfl (v_assign (ov rfl)) ?_
    refine R_nil ?_
    obtain rfl := rt (v := true) h
    refine T_ret (retq ?_ (.one (.tmp rfl (Dat.view (.b rfl)))))
    rfl
   ·
    refine T_keep (kc 1 rfl <| kn) rfl ?_
    refine T_seq (T_reg ?_)
    refine R_q _ rfl (v_fieldR (ov rfl) tF55_10) ?_
    refine R_q _ rfl (v_loadS_r (ov rfl) tS4 rfl) ?_
    refine R_q _ rfl (v_move (ov rfl)) ?_
    refine R_q _ rfl (.guarded (i.Latch == true) rfl rfl rfl rfl fun h => v_fieldR (ov rfl) tF55_0) ?_
    refine R_q _ rfl (.guarded (i.Latch == true) rfl rfl rfl rfl fun h => v_loadS_r (ow rfl h) tS3 rfl) ?_
    refine R_q _ rfl (.guarded (i.Latch == true) rfl rfl rfl rfl fun h => v_neq (ow rfl h) (ov rfl)) ?_
    refine R_q _ rfl (v_and (ov rfl) (fun hp => ow rfl (gT hp))) ?_
    refine R_q _ rfl (v_assign (ov rfl)) ?_
    refine R_nil ?_
    refine T_keep (kc 1 rfl <| kc 58 rfl <| kn) rfl ?_
    refine T_if h rfl (fun b58 h => ?_) (fun b58 h => ?_)
    ·
     refine T_keep (kn) rfl ?_
     refine T_seq (T_reg ?_)
     refine R_q _ rfl (v_assign (ov rfl)) ?_
     refine R_nil ?_
     obtain rfl := rt (v := true) h
     refine T_ret (retq ?_ (.one (.tmp rfl (Dat.view (.b rfl)))))
     rfl
    ·
     refine T_skip ?_
     refine T_keep (kc 1 rfl <| kn) rfl ?_
     refine T_seq (T_reg ?_)
     refine R_q _ rfl (v_fieldR (ov rfl) tF55_11) ?_
     refine R_q _ rfl (v_loadS_r (ov rfl) tS3 rfl) ?_
     refine R_q _ rfl (v_neq (ov rfl) (ov rfl)) ?_
     refine R_q _ rfl (v_move (ov rfl)) ?_
     refine R_q _ rfl (.guarded ((!decide (i.Size = 0)) == true) rfl rfl rfl rfl fun h => v_fieldR (ov rfl) tF55_0) ?_
     refine R_q _ rfl (.guarded ((!decide (i.Size = 0)) == true) rfl rfl rfl rfl fun h => v_loadS_r (ow rfl h) tS3 rfl) ?_
     refine R_q _ rfl (.guarded ((!decide (i.Size = 0)) == true) rfl rfl rfl rfl fun h => v_neq (ow rfl h) (ov rfl)) ?_
     refine R_q _ rfl (v_and (ov rfl) (fun hp => ow rfl (gT hp))) ?_
     refine R_q _ rfl (v_assign (ov rfl)) ?_
     refine R_nil ?_
     obtain rfl := rt (v := ((!decide (i.Size = 0)) && (!decide (i.Kind = 6)))) h
     refine T_ret (retq ?_ (.one (.tmp rfl (Dat.view (.b rfl)))))
     rfl

theorem ok_ref8_dialFault {i : api_Instrument} {r : Int} (h : ref8_dialFault i = some r) :
  CSpec Tryz.prog gl0 93 [.agg [.int .i64 i.Kind, .str i.Name, .str i.Track, .int .i64 i.Places, .int .i64 i.Low, .int .i64 i.High, .int .i64 i.Steps, .sl 169 (List.map R169 i.Zones), .int .i64 i.Op, .int .i64 i.N, .bool i.Latch, .int .i64 i.Size]] (.int .i64 r) := by
 unfold ref8_dialFault at h
 replace h := bnd0 h
 refine spec_of (by kernel_rfl) Tryz.func93 rfl rfl ?_
 intro w0 A
 refine T_seq (T_reg ?_)
 refine R_q _ rfl (v_boxD (cva (ov rfl)) rfl tZ_55 rfl) ?_
 refine R_q _ rfl (v_assign (ov rfl)) ?_
 refine R_nil ?_
 refine T_seq ?_
 refine T_keep (kc 1 rfl <| kn) rfl ?_
 refine T_seq (T_reg ?_)
 refine R_q _ rfl (v_fieldR (ov rfl) tF55_4) ?_
 refine R_q _ rfl (v_loadS_r (ov rfl) tS3 rfl) ?_
 refine R_q _ rfl (v_fieldR (ov rfl) tF55_5) ?_
 refine R_q _ rfl (v_loadS_r (ov rfl) tS3 rfl) ?_
 refine R_q _ rfl (v_geq (ov rfl) (ov rfl)) ?_
 refine R_q _ rfl (v_move (ov rfl)) ?_
 refine R_q _ rfl (.guarded ((decide (i.High ≤ i.Low)) == false) rfl rfl rfl rfl fun h => v_fieldR (ov rfl) tF55_4) ?_
 refine R_q _ rfl (.guarded ((decide (i.High ≤ i.Low)) == false) rfl rfl rfl rfl fun h => v_loadS_r (ow rfl h) tS3 rfl) ?_
 obtain ⟨y, h_y, h⟩ := bnd h
 refine R_q _ rfl (.guarded ((decide (i.High ≤ i.Low)) == false) rfl rfl rfl rfl fun h => v_call (ok_ref8_outside (gdT h_y h)) (.cons (ow rfl h) (.b rfl) <| .cons (ov rfl) (.b rfl) <| .cons (ov rfl) (.b rfl) <| .nil)) ?_
 refine R_q _ rfl (v_or (ov rfl) (fun hp => ow rfl (gF hp))) ?_
 refine R_q _ rfl (v_move (ov rfl)) ?_
 refine R_q _ rfl (.guarded (((decide (i.High ≤ i.Low)) || y) == false) rfl rfl rfl rfl fun h => v_fieldR (ov rfl) tF55_5) ?_
 refine R_q _ rfl (.guarded (((decide (i.High ≤ i.Low)) || y) == false) rfl rfl rfl rfl fun h => v_loadS_r (ow rfl h) tS3 rfl) ?_
 obtain ⟨y2, h_y2, h⟩ := bnd h
 refine R_q _ rfl (.guarded (((decide (i.High ≤ i.Low)) || y) == false) rfl rfl rfl rfl fun h => v_call (ok_ref8_outside (gdT h_y2 h)) (.cons (ow rfl h) (.b rfl) <| .cons (ov rfl) (.b rfl) <| .cons (ov rfl) (.b rfl) <| .nil)) ?_
 refine R_q _ rfl (v_or (ov rfl) (fun hp => ow rfl (gF hp))) ?_
 refine R_q _ rfl (v_move (ov rfl)) ?_
 refine R_q _ rfl (.guarded ((((decide (i.High ≤ i.Low)) || y) || y2) == false) rfl rfl rfl rfl fun h => v_fieldR (ov rfl) tF55_6) ?_
 refine R_q _ rfl (.guarded ((((decide (i.High ≤ i.Low)) || y) || y2) == false) rfl rfl rfl rfl fun h => v_loadS_r (ow rfl h) tS3 rfl) ?_
 obtain ⟨y3, h_y3, h⟩ := bnd h
 refine R_q _ rfl (.guarded ((((decide (i.High ≤ i.Low)) || y) || y2) == false) rfl rfl rfl rfl fun h => v_call (ok_ref8_outside (gdT h_y3 h)) (.cons (ow rfl h) (.b rfl) <| .cons (ov rfl) (.b rfl) <| .cons (ov rfl) (.b rfl) <| .nil)) ?_
 refine R_q _ rfl (v_or (ov rfl) (fun hp => ow rfl (gF hp))) ?_
 refine R_nil ?_
 refine T_keep (kc 1 rfl <| kc 24 rfl <| kn) rfl ?_
 refine T_if h rfl (fun b24 h => ?_) (fun b24 h => ?_)
 ·
  refine T_keep (kn) rfl ?_
  refine T_seq (T_reg ?_)
  refine R_q _ rfl (v_assign (ov rfl)) ?_
  refine R_nil ?_
  obtain rfl := rt (v := 9) h
  refine T_ret (retq ?_ (.one (.tmp rfl (Dat.view (.b rfl)))))
  rfl
 ·
  refine T_skip ?_
  refine T_seq ?_
  refine T_keep (kc 1 rfl <| kn) rfl ?_
  refine T_seq (T_reg ?_)
  refine R_q _ rfl (v_fieldR (ov rfl) tF55_7) ?_
  refine R_q _ rfl (v_loadS_r (ov rfl) tS53 rfl) ?_
  refine R_q _ rfl (v_len (slv_sl (ov rfl) tZ_169) tL53 (len_map _ _)) ?_
  refine R_q _ rfl (v_gtr (ov rfl) (ov rfl)) ?_
  refine R_nil ?_
  refine T_keep (kc 1 rfl <| kc 28 rfl <| kn) rfl ?_
  refine T_if h rfl (fun b28 h => ?_) (fun b28 h => ?_)
  ·
   refine T_keep (kn) rfl ?_
   refine T_seq (T_reg ?_)
   refine R_q _ rfl (v_assign (ov rfl)) ?_
   refine R_nil ?_
   obtain rfl := rt (v := 3) h
   refine T_ret (retq ?_ (.one (.tmp rfl (Dat.view (.b rfl)))))
   rfl
  ·
   refine T_skip ?_
   refine T_joinG (fun j => (.inr j)) (t0 ⟨[], []⟩) h (fun h => ?_) (fun j h => ?_)
   ·
    refine T_keep (kc 1 rfl <| kn) rfl ?_
    refine T_seq (T_reg ?_)
    refine R_q _ rfl (v_fieldR (ov rfl) tF55_7) ?_
    refine R_q _ rfl (v_loadS_r (ov rfl) tS53 rfl) ?_
    refine R_q _ rfl (v_len (slv_sl (ov rfl) tZ_169) tL53 (len_map _ _)) ?_
    refine R_q _ rfl (v_move (ov rfl)) ?_
    refine R_nil ?_
    refine T_block ?_
    obtain ⟨r1, hl1, ho1⟩ := bndL h
    refine T_loopG _ (t1 fun i2 => ⟨[(1, .rp [.int .i64 i.Kind, .str i.Name, .str i.Track, .int .i64 i.Places, .int .i64 i.Low, .int .i64 i.High, .int .i64 i.Steps, .sl 169 (List.map R169 i.Zones), .int .i64 i.Op, .int .i64 i.N, .bool i.Latch, .int .i64 i.Size] 0), (30, .sl 169 (List.map R169 i.Zones)), (31, .int .i64 (i.Zones.length : Int)), (32, .int .i64 i2)], []⟩) _ hl1 (Ent.sel [] (sd 1 rfl rfl <| sd 30 rfl rfl <| sd 31 rfl rfl <| sd 32 rfl rfl <| sn) (.nil) rfl rfl) (fun n1 s1 h => ?_)
    obtain ⟨i2, rfl⟩ : ∃ x, x = s1 := ⟨_, rfl⟩
    replace h := t1i h
    refine t1T ?_
    unfold ref8_dialFault_L1 at h
    refine T_seq (T_reg ?_)
    refine R_q _ rfl (v_lss (ov rfl) (ov rfl)) ?_
    refine R_nil ?_
    refine T_seq ?_
    refine T_if h rfl (fun b33 h => ?_) (fun b33 h => ?_)
    ·
     refine T_skip ?_
     refine T_seq ?_
     refine T_block ?_
     refine T_keep (kc 1 rfl <| kc 30 rfl <| kc 31 rfl <| kc 32 rfl <| kn) rfl ?_
     refine T_seq (T_reg ?_)
     refine R_q _ rfl (v_move (ov rfl)) ?_
     obtain ⟨x, h_x, h⟩ := bnd h
     refine R_q _ rfl (v_ixSG (ov rfl) (ov rfl) tL53 h_x) ?_
     refine R_q _ rfl (v_loadA_r (ov rfl) tA169 rfl rfl) ?_
     refine R_w _ _ rfl (w_alloc (row := [_, _, _]) 0 rfl tZ169 rfl tZ_169) ?_
     refine R_q _ rfl (v_assign (ov rfl)) ?_
     refine R_w _ _ rfl (w_store (ov rfl) (ov rfl) (cells_agg tA169 rfl) rfl rfl rfl (Nat.le_of_ble_eq_true rfl) (cell1_all rfl) rfl) ?_
     refine R_nil ?_
     refine T_block ?_
     refine T_keep (kc 1 rfl <| kc 3 rfl <| kc 4 rfl <| kc 30 rfl <| kc 31 rfl <| kc 32 rfl <| kn) rfl ?_
     refine T_seq (T_reg ?_)
     refine R_q _ rfl (v_fieldP (ov rfl) rfl rfl tF169_2) ?_
     refine R_q _ rfl (v_loadS (ov rfl) rfl rfl rfl tS9 rfl) ?_
     obtain ⟨y4, h_y4, h⟩ := bnd h
     refine R_q _ rfl (v_call (ok_ref8_isName h_y4) (.cons (ov rfl) (.b rfl) <| .nil)) ?_
     refine R_q _ rfl (v_not (ov rfl)) ?_
     refine R_q _ rfl (v_assign (ov rfl)) ?_
     refine R_nil ?_
     refine T_keep (kc 1 rfl <| kc 3 rfl <| kc 4 rfl <| kc 30 rfl <| kc 31 rfl <| kc 32 rfl <| kc 37 rfl <| kn) rfl ?_
     refine T_if h rfl (fun b37 h => ?_) (fun b37 h => ?_)
     ·
      refine T_keep (kn) rfl ?_
      refine T_seq (T_reg ?_)
      refine R_q _ rfl (v_assign (ov rfl)) ?_
      refine R_nil ?_
      rw [lx h] at ho1
      replace h := ho1
      obtain rfl := rt (v := 8) h
      refine T_ret (retq ?_ (.one (.tmp rfl (Dat.view (.b rfl)))))
      rfl
     ·
      refine T_keep (kc 1 rfl <| kc 3 rfl <| kc 4 rfl <| kc 30 rfl <| kc 31 rfl <| kc 32 rfl <| kn) rfl ?_
      refine T_seq (T_reg ?_)
      refine R_q _ rfl (v_fieldP (ov rfl) rfl rfl tF169_0) ?_
      refine R_q _ rfl (v_loadS (ov rfl) rfl rfl rfl tS3 rfl) ?_
      refine R_q _ rfl (v_fieldP (ov rfl) rfl rfl tF169_1) ?_
      refine R_q _ rfl (v_loadS (ov rfl) rfl rfl rfl tS3 rfl) ?_
      refine R_q _ rfl (v_gtr (ov rfl) (ov rfl)) ?_
      refine R_q _ rfl (v_assign (ov rfl)) ?_
      refine R_nil ?_
      refine T_keep (kc 1 rfl <| kc 3 rfl <| kc 4 rfl <| kc 30 rfl <| kc 31 rfl <| kc 32 rfl <| kc 42 rfl <| kn) rfl ?_
      refine T_if h rfl (fun b42 h => ?_) (fun b42 h => ?_)
      ·
       refine T_keep (kn) rfl ?_
       refine T_seq (T_reg ?_)
       refine R_q _ rfl (v_assign (ov rfl)) ?_
       refine R_nil ?_
       rw [lx h] at ho1
       replace h := ho1
       obtain rfl := rt (v := 9) h
       refine T_ret (retq ?_ (.one (.tmp rfl (Dat.view (.b rfl)))))
       rfl
      ·
       refine T_keep (kc 1 rfl <| kc 3 rfl <| kc 4 rfl <| kc 30 rfl <| kc 31 rfl <| kc 32 rfl <| kn) rfl ?_
       refine T_seq (T_draw (cw := md0) (by kernel_rfl) ?_)
       refine D_q0 0 _ rfl (by kernel_rfl) rfl rfl (v_move (ov rfl)) ?_
       refine D_q0 1 _ rfl (by kernel_rfl) rfl rfl (v_gtr (ov rfl) (ov rfl)) ?_
       refine D_q0 2 _ rfl (by kernel_rfl) rfl rfl (v_move (ov rfl)) ?_
       refine D_q0 3 _ rfl (by kernel_rfl) rfl rfl (.guarded ((decide (0 < i2)) == true) rfl rfl rfl rfl fun h => v_fieldP (ov rfl) rfl rfl tF169_0) ?_
       refine D_q0 4 _ rfl (by kernel_rfl) rfl rfl (.guarded ((decide (0 < i2)) == true) rfl rfl rfl rfl fun h => v_loadS (ow rfl h) rfl rfl rfl tS3 rfl) ?_
       refine D_q0 5 _ rfl (by kernel_rfl) rfl rfl (.guarded ((decide (0 < i2)) == true) rfl rfl rfl rfl fun h => v_fieldR (ov rfl) tF55_7) ?_
       refine D_q0 6 _ rfl (by kernel_rfl) rfl rfl (.guarded ((decide (0 < i2)) == true) rfl rfl rfl rfl fun h => v_loadS_r (ow rfl h) tS53 rfl) ?_
       refine D_q0 7 _ rfl (by kernel_rfl) rfl rfl (.guarded ((decide (0 < i2)) == true) rfl rfl rfl rfl fun h => v_move (ov rfl)) ?_
       refine D_q0 8 _ rfl (by kernel_rfl) rfl rfl (.guarded ((decide (0 < i2)) == true) rfl rfl rfl rfl fun h => v_sub (ow rfl h) (ov rfl) rfl) ?_
       obtain ⟨x2, h_x2, h⟩ := bnd h
       refine D_q0 9 _ rfl (by kernel_rfl) rfl rfl (.guarded ((decide (0 < i2)) == true) rfl rfl rfl rfl fun h => v_ixSG (ow rfl h) (ow rfl h) tL53 (gdT h_x2 h)) ?_
       refine D_q0 10 _ rfl (by kernel_rfl) rfl rfl (.guarded ((decide (0 < i2)) == true) rfl rfl rfl rfl fun h => v_fieldR (ow rfl h) tF169_1) ?_
       refine D_q0 11 _ rfl (by kernel_rfl) rfl rfl (.guarded ((decide (0 < i2)) == true) rfl rfl rfl rfl fun h => v_loadS_r (ow rfl h) tS3 rfl) ?_
       refine D_q0 12 _ rfl (by kernel_rfl) rfl rfl (.guarded ((decide (0 < i2)) == true) rfl rfl rfl rfl fun h => v_leq (ow rfl h) (ow rfl h)) ?_
       refine D_q0 13 _ rfl (by kernel_rfl) rfl rfl (v_and (ov rfl) (fun hp => ow rfl (gT hp))) ?_
       refine D_q0 14 _ rfl (by kernel_rfl) rfl rfl (v_assign (ov rfl)) ?_
       refine D_done (by kernel_rfl) ?_
       refine T_keep (kc 1 rfl <| kc 30 rfl <| kc 31 rfl <| kc 32 rfl <| kc 48 rfl <| kn) rfl ?_
       refine T_if h rfl (fun b48 h => ?_) (fun b48 h => ?_)
       ·
        refine T_keep (kn) rfl ?_
        refine T_seq (T_reg ?_)
        refine R_q _ rfl (v_assign (ov rfl)) ?_
        refine R_nil ?_
        rw [lx h] at ho1
        replace h := ho1
        obtain rfl := rt (v := 10) h
        refine T_ret (retq ?_ (.one (.tmp rfl (Dat.view (.b rfl)))))
        rfl
       ·
        refine T_skip ?_
        refine T_keep (kc 1 rfl <| kc 30 rfl <| kc 31 rfl <| kc 32 rfl <| kn) rfl ?_
        refine T_reg ?_
        refine R_q _ rfl (v_add (ov rfl) (ov rfl) rfl) ?_
        refine R_q _ rfl (v_move (ov rfl)) ?_
        refine R_nil ?_
        exact ⟨(i64 (i2 + 1)), h, Ent.sel [] (sd 1 rfl rfl <| sd 30 rfl rfl <| sd 31 rfl rfl <| sd 32 rfl rfl <| sn) (.nil) rfl rfl⟩
    ·
     refine T_exit ?_
     rw [lx h] at ho1
     replace h := ho1
     exact ⟨(), h, Ent.sel [] (sn) (.nil) rfl rfl⟩
   ·
    replace h := elr h
    cases j
    replace h := t0i h
    refine t0T ?_
    refine T_seq (T_reg ?_)
    refine R_q _ rfl (v_assign (ov rfl)) ?_
    refine R_nil ?_
    obtain rfl := rt (v := 0) h
    refine T_ret (retq ?_ (.one (.tmp rfl (Dat.view (.b rfl)))))
    rfl

theorem ok_ref8_CheckInstrument {i : api_Instrument} {r : Int} (h : ref8_CheckInstrument i = some r) :
  CSpec Tryz.prog gl0 30 [.agg [.int .i64 i.Kind, .str i.Name, .str i.Track, .int .i64 i.Places, .int .i64 i.Low, .int .i64 i.High, .int .i64 i.Steps, .sl 169 (List.map R169 i.Zones), .int .i64 i.Op, .int .i64 i.N, .bool i.Latch, .int .i64 i.Size]] (.int .i64 r) := by
 unfold ref8_CheckInstrument at h
 replace h := bnd0 h
 refine spec_of (by kernel_rfl) Tryz.func30 rfl rfl ?_
 intro w0 A
 refine T_seq (T_reg ?_)
 refine R_q _ rfl (v_boxD (cva (ov rfl)) rfl tZ_55 rfl) ?_
 refine R_q _ rfl (v_assign (ov rfl)) ?_
 refine R_nil ?_
 refine T_seq ?_
 refine T_keep (kc 1 rfl <| kn) rfl ?_
 refine T_seq (T_reg ?_)
 refine R_q _ rfl (v_fieldR (ov rfl) tF55_0) ?_
 refine R_q _ rfl (v_loadS_r (ov rfl) tS3 rfl) ?_
 obtain ⟨y, h_y, h⟩ := bnd h
 refine R_q _ rfl (v_call (ok_ref8_outside h_y) (.cons (ov rfl) (.b rfl) <| .cons (ov rfl) (.b rfl) <| .cons (ov rfl) (.b rfl) <| .nil)) ?_
 refine R_nil ?_
 refine T_keep (kc 1 rfl <| kc 5 rfl <| kn) rfl ?_
 refine T_if h rfl (fun b5 h => ?_) (fun b5 h => ?_)
 ·
  refine T_keep (kn) rfl ?_
  refine T_seq (T_reg ?_)
  refine R_q _ rfl (v_assign (ov rfl)) ?_
  refine R_nil ?_
  obtain rfl := rt (v := 7) h
  refine T_ret (retq ?_ (.one (.tmp rfl (Dat.view (.b rfl)))))
  rfl
 ·
  refine T_skip ?_
  refine T_seq ?_
  refine T_keep (kc 1 rfl <| kn) rfl ?_
  refine T_seq (T_reg ?_)
  refine R_q _ rfl (v_fieldR (ov rfl) tF55_1) ?_
  refine R_q _ rfl (v_loadS_r (ov rfl) tS9 rfl) ?_
  obtain ⟨y2, h_y2, h⟩ := bnd h
  refine R_q _ rfl (v_call (ok_ref8_isName h_y2) (.cons (ov rfl) (.b rfl) <| .nil)) ?_
  refine R_q _ rfl (v_not (ov rfl)) ?_
  refine R_q _ rfl (v_move (ov rfl)) ?_
  refine R_q _ rfl (.guarded ((!y2) == false) rfl rfl rfl rfl fun h => v_fieldR (ov rfl) tF55_2) ?_
  refine R_q _ rfl (.guarded ((!y2) == false) rfl rfl rfl rfl fun h => v_loadS_r (ow rfl h) tS9 rfl) ?_
  refine R_q _ rfl (.guarded ((!y2) == false) rfl rfl rfl rfl fun h => v_eqlStr (ow rfl h) (ov rfl)) ?_
  refine R_q _ rfl (v_or (ov rfl) (fun hp => ow rfl (gF hp))) ?_
  refine R_q _ rfl (v_move (ov rfl)) ?_
  refine R_q _ rfl (.guarded (((!y2) || (decide (i.Track = []))) == false) rfl rfl rfl rfl fun h => v_fieldR (ov rfl) tF55_2) ?_
  refine R_q _ rfl (.guarded (((!y2) || (decide (i.Track = []))) == false) rfl rfl rfl rfl fun h => v_loadS_r (ow rfl h) tS9 rfl) ?_
  refine R_q _ rfl (.guarded (((!y2) || (decide (i.Track = []))) == false) rfl rfl rfl rfl fun h => v_lenStr (ow rfl h) tStr9 rfl) ?_
  refine R_q _ rfl (.guarded (((!y2) || (decide (i.Track = []))) == false) rfl rfl rfl rfl fun h => v_gtr (ow rfl h) (ov rfl)) ?_
  refine R_q _ rfl (v_or (ov rfl) (fun hp => ow rfl (gF hp))) ?_
  refine R_nil ?_
  refine T_keep (kc 1 rfl <| kc 20 rfl <| kn) rfl ?_
  refine T_if h rfl (fun b20 h => ?_) (fun b20 h => ?_)
  ·
   refine T_keep (kn) rfl ?_
   refine T_seq (T_reg ?_)
   refine R_q _ rfl (v_assign (ov rfl)) ?_
   refine R_nil ?_
   obtain rfl := rt (v := 8) h
   refine T_ret (retq ?_ (.one (.tmp rfl (Dat.view (.b rfl)))))
   rfl
  ·
   refine T_skip ?_
   refine T_seq ?_
   refine T_keep (kc 1 rfl <| kn) rfl ?_
   refine T_seq (T_reg ?_)
   refine R_q _ rfl (v_loadA_r (ov rfl) tA55 rfl rfl) ?_
   obtain ⟨y3, h_y3, h⟩ := bnd h
   refine R_q _ rfl (v_call (ok_ref8_unused h_y3) (.cons (ov rfl) (.aggB rfl) <| .nil)) ?_
   refine R_nil ?_
   refine T_keep (kc 1 rfl <| kc 22 rfl <| kn) rfl ?_
   refine T_if h rfl (fun b22 h => ?_) (fun b22 h => ?_)
   ·
    refine T_keep (kn) rfl ?_
    refine T_seq (T_reg ?_)
    refine R_q _ rfl (v_assign (ov rfl)) ?_
    refine R_nil ?_
    obtain rfl := rt (v := 2) h
    refine T_ret (retq ?_ (.one (.tmp rfl (Dat.view (.b rfl)))))
    rfl
   ·
    refine T_skip ?_
    refine T_seq ?_
    refine T_keep (kc 1 rfl <| kn) rfl ?_
    refine T_seq (T_reg ?_)
    refine R_q _ rfl (v_fieldR (ov rfl) tF55_3) ?_
    refine R_q _ rfl (v_loadS_r (ov rfl) tS3 rfl) ?_
    obtain ⟨y4, h_y4, h⟩ := bnd h
    refine R_q _ rfl (v_call (ok_ref8_outside h_y4) (.cons (ov rfl) (.b rfl) <| .cons (ov rfl) (.b rfl) <| .cons (ov rfl) (.b rfl) <| .nil)) ?_
    refine R_nil ?_
    refine T_keep (kc 1 rfl <| kc 25 rfl <| kn) rfl ?_
    refine T_if h rfl (fun b25 h => ?_) (fun b25 h => ?_)
    ·
     refine T_keep (kn) rfl ?_
     refine T_seq (T_reg ?_)
     refine R_q _ rfl (v_assign (ov rfl)) ?_
     refine R_nil ?_
     obtain rfl := rt (v := 9) h
     refine T_ret (retq ?_ (.one (.tmp rfl (Dat.view (.b rfl)))))
     rfl
    ·
     refine T_skip ?_
     refine T_seq ?_
     refine T_keep (kc 1 rfl <| kn) rfl ?_
     refine T_seq (T_reg ?_)
     refine R_q _ rfl (v_fieldR (ov rfl) tF55_0) ?_
     refine R_q _ rfl (v_loadS_r (ov rfl) tS3 rfl) ?_
     refine R_nil ?_
     refine T_block ?_
     refine T_keep (kc 1 rfl <| kc 27 rfl <| kn) rfl ?_
     refine T_seq (T_reg ?_)
     refine R_q _ rfl (v_eql (ov rfl) (ov rfl)) ?_
     refine R_q _ rfl (v_assign (ov rfl)) ?_
     refine R_nil ?_
     refine T_keep (kc 1 rfl <| kc 27 rfl <| kc 28 rfl <| kn) rfl ?_
     refine T_if h rfl (fun b28 h => ?_) (fun b28 h => ?_)
     ·
      refine T_keep (kc 1 rfl <| kn) rfl ?_
      refine T_seq (T_reg ?_)
      refine R_q _ rfl (v_loadA_r (ov rfl) tA55 rfl rfl) ?_
      obtain ⟨y5, h_y5, h⟩ := bnd h
      refine R_q _ rfl (v_call (ok_ref8_dialFault h_y5) (.cons (ov rfl) (.aggB rfl) <| .nil)) ?_
      refine R_q _ rfl (v_assign (ov rfl)) ?_
      refine R_nil ?_
      obtain rfl := rt (v := y5) h
      refine T_ret (retq ?_ (.one (.tmp rfl (Dat.view (.b rfl)))))
      rfl
     ·
      refine T_joinG id (t1 fun v => ⟨[(1, .rp [.int .i64 i.Kind, .str i.Name, .str i.Track, .int .i64 i.Places, .int .i64 i.Low, .int .i64 i.High, .int .i64 i.Steps, .sl 169 (List.map R169 i.Zones), .int .i64 i.Op, .int .i64 i.N, .bool i.Latch, .int .i64 i.Size] 0), (27, .int .i64 i.Kind), (32, .bool v)], []⟩) h (fun h => ?_) (fun j h => ?_)
      ·
       refine T_keep (kc 1 rfl <| kc 27 rfl <| kn) rfl ?_
       refine T_seq (T_reg ?_)
       refine R_q _ rfl (v_eql (ov rfl) (ov rfl)) ?_
       refine R_q _ rfl (v_assign (ov rfl)) ?_
       refine R_nil ?_
       refine T_keep (kc 1 rfl <| kc 27 rfl <| kc 32 rfl <| kn) rfl ?_
       refine T_if h rfl (fun b32 h => ?_) (fun b32 h => ?_)
       ·
        refine T_skip ?_
        exact ⟨(decide (i.Kind = 3)), h, Ent.sel [] (sd 1 rfl rfl <| sd 27 rfl rfl <| sd 32 rfl rfl <| sn) (.nil) rfl rfl⟩
       ·
        refine T_reg ?_
        refine R_q _ rfl (v_eql (ov rfl) (ov rfl)) ?_
        refine R_q _ rfl (v_assign (ov rfl)) ?_
        refine R_nil ?_
        exact ⟨(decide (i.Kind = 5)), h, Ent.sel [] (sd 1 rfl rfl <| sd 27 rfl rfl <| sd 32 rfl rfl <| sn) (.nil) rfl rfl⟩
      ·
       obtain ⟨v, rfl⟩ : ∃ x, x = j := ⟨_, rfl⟩
       replace h := t1i h
       refine t1T ?_
       refine T_if h rfl (fun b32 h => ?_) (fun b32 h => ?_)
       ·
        refine T_seq ?_
        refine T_keep (kc 1 rfl <| kn) rfl ?_
        refine T_seq (T_reg ?_)
        refine R_q _ rfl (v_fieldR (ov rfl) tF55_8) ?_
        refine R_q _ rfl (v_loadS_r (ov rfl) tS3 rfl) ?_
        obtain ⟨y6, h_y6, h⟩ := bnd h
        refine R_q _ rfl (v_call (ok_ref8_outside h_y6) (.cons (ov rfl) (.b rfl) <| .cons (ov rfl) (.b rfl) <| .cons (ov rfl) (.b rfl) <| .nil)) ?_
        refine R_nil ?_
        refine T_keep (kc 1 rfl <| kc 37 rfl <| kn) rfl ?_
        refine T_if h rfl (fun b37 h => ?_) (fun b37 h => ?_)
        ·
         refine T_keep (kn) rfl ?_
         refine T_seq (T_reg ?_)
         refine R_q _ rfl (v_assign (ov rfl)) ?_
         refine R_nil ?_
         obtain rfl := rt (v := 7) h
         refine T_ret (retq ?_ (.one (.tmp rfl (Dat.view (.b rfl)))))
         rfl
        ·
         refine T_skip ?_
         refine T_keep (kc 1 rfl <| kn) rfl ?_
         refine T_seq (T_reg ?_)
         refine R_q _ rfl (v_fieldR (ov rfl) tF55_9) ?_
         refine R_q _ rfl (v_loadS_r (ov rfl) tS3 rfl) ?_
         obtain ⟨y7, h_y7, h⟩ := bnd h
         refine R_q _ rfl (v_call (ok_ref8_outside h_y7) (.cons (ov rfl) (.b rfl) <| .cons (ov rfl) (.b rfl) <| .cons (ov rfl) (.b rfl) <| .nil)) ?_
         refine R_nil ?_
         refine T_keep (kc 40 rfl <| kn) rfl ?_
         refine T_if h rfl (fun b40 h => ?_) (fun b40 h => ?_)
         ·
          refine T_keep (kn) rfl ?_
          refine T_seq (T_reg ?_)
          refine R_q _ rfl (v_assign (ov rfl)) ?_
          refine R_nil ?_
          obtain rfl := rt (v := 9) h
          refine T_ret (retq ?_ (.one (.tmp rfl (Dat.view (.b rfl)))))
          rfl
         ·
          refine T_skip ?_
          refine T_keep (kn) rfl ?_
          refine T_seq (T_reg ?_)
          refine R_q _ rfl (v_assign (ov rfl)) ?_
          refine R_nil ?_
          obtain rfl := rt (v := 0) h
          refine T_ret (retq ?_ (.one (.tmp rfl (Dat.view (.b rfl)))))
          rfl
       ·
        refine T_keep (kc 1 rfl <| kc 27 rfl <| kn) rfl ?_
        refine T_seq (T_reg ?_)
        refine R_q _ rfl (v_eql (ov rfl) (ov rfl)) ?_
        refine R_q _ rfl (v_assign (ov rfl)) ?_
        refine R_nil ?_
        refine T_keep (kc 1 rfl <| kc 41 rfl <| kn) rfl ?_
        refine T_if h rfl (fun b41 h => ?_) (fun b41 h => ?_)
        ·
         refine T_keep (kc 1 rfl <| kn) rfl ?_
         refine T_seq (T_reg ?_)
         refine R_q _ rfl (v_fieldR (ov rfl) tF55_11) ?_
         refine R_q _ rfl (v_loadS_r (ov rfl) tS3 rfl) ?_
         obtain ⟨y8, h_y8, h⟩ := bnd h
         refine R_q _ rfl (v_call (ok_ref8_outside h_y8) (.cons (ov rfl) (.b rfl) <| .cons (ov rfl) (.b rfl) <| .cons (ov rfl) (.b rfl) <| .nil)) ?_
         refine R_nil ?_
         refine T_keep (kc 45 rfl <| kn) rfl ?_
         refine T_if h rfl (fun b45 h => ?_) (fun b45 h => ?_)
         ·
          refine T_keep (kn) rfl ?_
          refine T_seq (T_reg ?_)
          refine R_q _ rfl (v_assign (ov rfl)) ?_
          refine R_nil ?_
          obtain rfl := rt (v := 9) h
          refine T_ret (retq ?_ (.one (.tmp rfl (Dat.view (.b rfl)))))
          rfl
         ·
          refine T_skip ?_
          refine T_keep (kn) rfl ?_
          refine T_seq (T_reg ?_)
          refine R_q _ rfl (v_assign (ov rfl)) ?_
          refine R_nil ?_
          obtain rfl := rt (v := 0) h
          refine T_ret (retq ?_ (.one (.tmp rfl (Dat.view (.b rfl)))))
          rfl
        ·
         refine T_skip ?_
         refine T_keep (kn) rfl ?_
         refine T_seq (T_reg ?_)
         refine R_q _ rfl (v_assign (ov rfl)) ?_
         refine R_nil ?_
         obtain rfl := rt (v := 0) h
         refine T_ret (retq ?_ (.one (.tmp rfl (Dat.view (.b rfl)))))
         rfl

theorem ok_ref8_Check {p : api_Panel} {r : Int} (h : ref8_Check p = some r) :
  CSpec Tryz.prog gl0 34 [.agg [.sl 55 (List.map R55 p.Instruments)]] (.int .i64 r) := by
 unfold ref8_Check at h
 replace h := bnd0 h
 refine spec_of (by kernel_rfl) Tryz.func34 rfl rfl ?_
 intro w0 A
 refine T_seq (T_reg ?_)
 refine R_q _ rfl (v_boxD (cva (ov rfl)) rfl tZ_41 rfl) ?_
 refine R_q _ rfl (v_assign (ov rfl)) ?_
 refine R_nil ?_
 refine T_seq ?_
 refine T_keep (kc 1 rfl <| kn) rfl ?_
 refine T_seq (T_reg ?_)
 refine R_q _ rfl (v_fieldR (ov rfl) tF41_0) ?_
 refine R_q _ rfl (v_loadS_r (ov rfl) tS39 rfl) ?_
 refine R_q _ rfl (v_len (slv_sl (ov rfl) tZ_55) tL39 (len_map _ _)) ?_
 refine R_q _ rfl (v_gtr (ov rfl) (ov rfl)) ?_
 refine R_nil ?_
 refine T_keep (kc 1 rfl <| kc 11 rfl <| kn) rfl ?_
 refine T_if h rfl (fun b11 h => ?_) (fun b11 h => ?_)
 ·
  refine T_keep (kn) rfl ?_
  refine T_seq (T_reg ?_)
  refine R_q _ rfl (v_assign (ov rfl)) ?_
  refine R_nil ?_
  obtain rfl := rt (v := 3) h
  refine T_ret (retq ?_ (.one (.tmp rfl (Dat.view (.b rfl)))))
  rfl
 ·
  refine T_skip ?_
  refine T_joinG (fun j => (.inr j)) (t0 ⟨[], []⟩) h (fun h => ?_) (fun j h => ?_)
  ·
   refine T_keep (kc 1 rfl <| kn) rfl ?_
   refine T_seq (T_reg ?_)
   refine R_q _ rfl (v_fieldR (ov rfl) tF41_0) ?_
   refine R_q _ rfl (v_loadS_r (ov rfl) tS39 rfl) ?_
   refine R_q _ rfl (v_len (slv_sl (ov rfl) tZ_55) tL39 (len_map _ _)) ?_
   refine R_q _ rfl (v_move (ov rfl)) ?_
   refine R_nil ?_
   refine T_block ?_
   obtain ⟨r1, hl1, ho1⟩ := bndL h
   refine T_loopG _ (t1 fun i => ⟨[(1, .rp [.sl 55 (List.map R55 p.Instruments)] 0), (13, .sl 55 (List.map R55 p.Instruments)), (14, .int .i64 (p.Instruments.length : Int)), (15, .int .i64 i)], []⟩) _ hl1 (Ent.sel [] (sd 1 rfl rfl <| sd 13 rfl rfl <| sd 14 rfl rfl <| sd 15 rfl rfl <| sn) (.nil) rfl rfl) (fun n1 s1 h => ?_)
   obtain ⟨i, rfl⟩ : ∃ x, x = s1 := ⟨_, rfl⟩
   replace h := t1i h
   refine t1T ?_
   unfold ref8_Check_L1 at h
   refine T_seq (T_reg ?_)
   refine R_q _ rfl (v_lss (ov rfl) (ov rfl)) ?_
   refine R_nil ?_
   refine T_seq ?_
   refine T_if h rfl (fun b16 h => ?_) (fun b16 h => ?_)
   ·
    refine T_skip ?_
    refine T_joinG (fun j => (.inr j)) (t0 ⟨[(1, .rp [.sl 55 (List.map R55 p.Instruments)] 0), (13, .sl 55 (List.map R55 p.Instruments)), (14, .int .i64 (p.Instruments.length : Int)), (15, .int .i64 i)], []⟩) h (fun h => ?_) (fun j h => ?_)
    ·
     refine T_block ?_
     refine T_keep (kc 1 rfl <| kc 13 rfl <| kc 14 rfl <| kc 15 rfl <| kn) rfl ?_
     refine T_seq (T_reg ?_)
     refine R_q _ rfl (v_move (ov rfl)) ?_
     obtain ⟨x, h_x, h⟩ := bnd h
     refine R_q _ rfl (v_ixSG (ov rfl) (ov rfl) tL39 h_x) ?_
     refine R_q _ rfl (v_loadA_r (ov rfl) tA55 rfl rfl) ?_
     refine R_w _ _ rfl (w_alloc (row := [_, _, _, _, _, _, _, _, _, _, _, _]) 0 rfl tZ55 rfl tZ_55) ?_
     refine R_q _ rfl (v_assign (ov rfl)) ?_
     refine R_w _ _ rfl (w_store (ov rfl) (ov rfl) (cells_agg tA55 rfl) rfl rfl rfl (Nat.le_of_ble_eq_true rfl) (cell1_all rfl) rfl) ?_
     refine R_nil ?_
     refine T_seq ?_
     refine T_keep (kc 1 rfl <| kc 3 rfl <| kc 4 rfl <| kc 13 rfl <| kc 14 rfl <| kc 15 rfl <| kn) rfl ?_
     refine T_seq (T_reg ?_)
     refine R_q _ rfl (v_loadA (ov rfl) rfl rfl rfl tA55 rfl rfl) ?_
     obtain ⟨y, h_y, h⟩ := bnd h
     refine R_q _ rfl (v_call (ok_ref8_CheckInstrument h_y) (.cons (ov rfl) (.aggB rfl) <| .nil)) ?_
     refine R_q _ rfl (v_assign (ov rfl)) ?_
     refine R_nil ?_
     refine T_keep (kc 1 rfl <| kc 3 rfl <| kc 4 rfl <| kc 5 rfl <| kc 13 rfl <| kc 14 rfl <| kc 15 rfl <| kn) rfl ?_
     refine T_seq (T_reg ?_)
     refine R_q _ rfl (v_move (ov rfl)) ?_
     refine R_q _ rfl (v_neq (ov rfl) (ov rfl)) ?_
     refine R_nil ?_
     refine T_keep (kc 1 rfl <| kc 3 rfl <| kc 4 rfl <| kc 5 rfl <| kc 13 rfl <| kc 14 rfl <| kc 15 rfl <| kc 23 rfl <| kn) rfl ?_
     refine T_if h rfl (fun b23 h => ?_) (fun b23 h => ?_)
     ·
      refine T_keep (kc 5 rfl <| kn) rfl ?_
      refine T_seq (T_reg ?_)
      refine R_q _ rfl (v_move (ov rfl)) ?_
      refine R_q _ rfl (v_assign (ov rfl)) ?_
      refine R_nil ?_
      rw [lx h] at ho1
      replace h := ho1
      obtain rfl := rt (v := y) h
      refine T_ret (retq ?_ (.one (.tmp rfl (Dat.view (.b rfl)))))
      rfl
     ·
      refine T_skip ?_
      refine T_keep (kc 1 rfl <| kc 3 rfl <| kc 4 rfl <| kc 13 rfl <| kc 14 rfl <| kc 15 rfl <| kn) rfl ?_
      refine T_seq (T_reg ?_)
      refine R_q _ rfl (v_fieldR (ov rfl) tF41_0) ?_
      refine R_q _ rfl (v_loadS_r (ov rfl) tS39 rfl) ?_
      refine R_q _ rfl (v_move (ov rfl)) ?_
      obtain ⟨l, h_l, h⟩ := bnd h
      refine R_q _ rfl (v_sliceG (ov rfl) tL39 on (oi (ov rfl)) h_l) ?_
      refine R_q _ rfl (v_len (slv_sl (ov rfl) tZ_55) tL39 (len_map _ _)) ?_
      refine R_q _ rfl (v_move (ov rfl)) ?_
      refine R_nil ?_
      refine T_block ?_
      obtain ⟨r2, hl2, ho2⟩ := bndL h
      refine T_loopG _ (t1 fun i2 => ⟨[(1, .rp [.sl 55 (List.map R55 p.Instruments)] 0), (4, .ptr 0 1 0 0), (13, .sl 55 (List.map R55 p.Instruments)), (14, .int .i64 (p.Instruments.length : Int)), (15, .int .i64 i), (28, .sl 55 (List.map R55 l)), (29, .int .i64 (l.length : Int)), (30, .int .i64 i2)], [some ⟨55, [[.int .i64 x.Kind, .str x.Name, .str x.Track, .int .i64 x.Places, .int .i64 x.Low, .int .i64 x.High, .int .i64 x.Steps, .sl 169 (List.map R169 x.Zones), .int .i64 x.Op, .int .i64 x.N, .bool x.Latch, .int .i64 x.Size]]⟩]⟩) _ hl2 (Ent.sel [some 0] (sd 1 rfl rfl <| sr 4 rfl (.ptr _ _ _ rfl) <| sd 13 rfl rfl <| sd 14 rfl rfl <| sd 15 rfl rfl <| sd 28 rfl rfl <| sd 29 rfl rfl <| sd 30 rfl rfl <| sn) (.cons rfl (ro1 (by exact tZ_55.symm) (rld rfl)) <| .nil) rfl rfl) (fun n2 s2 h => ?_)
      obtain ⟨i2, rfl⟩ : ∃ x, x = s2 := ⟨_, rfl⟩
      replace h := t1i h
      refine t1T ?_
      unfold ref8_Check_L2 at h
      refine T_seq (T_reg ?_)
      refine R_q _ rfl (v_lss (ov rfl) (ov rfl)) ?_
      refine R_nil ?_
      refine T_seq ?_
      refine T_if h rfl (fun b31 h => ?_) (fun b31 h => ?_)
      ·
       refine T_skip ?_
       refine T_seq ?_
       refine T_block ?_
       refine T_keep (kc 1 rfl <| kc 4 rfl <| kc 13 rfl <| kc 14 rfl <| kc 15 rfl <| kc 28 rfl <| kc 29 rfl <| kc 30 rfl <| kn) rfl ?_
       refine T_seq (T_reg ?_)
       obtain ⟨x2, h_x2, h⟩ := bnd h
       refine R_q _ rfl (v_ixSG (ov rfl) (ov rfl) tL39 h_x2) ?_
       refine R_q _ rfl (v_loadA_r (ov rfl) tA55 rfl rfl) ?_
       refine R_w _ _ rfl (w_alloc (row := [_, _, _, _, _, _, _, _, _, _, _, _]) 1 rfl tZ55 rfl tZ_55) ?_
       refine R_w _ _ rfl (w_store (ov rfl) (ov rfl) (cells_agg tA55 rfl) rfl rfl rfl (Nat.le_of_ble_eq_true rfl) (cell1_all rfl) rfl) ?_
       refine R_nil ?_
       refine T_keep (kc 1 rfl <| kc 4 rfl <| kc 7 rfl <| kc 13 rfl <| kc 14 rfl <| kc 15 rfl <| kc 28 rfl <| kc 29 rfl <| kc 30 rfl <| kn) rfl ?_
       refine T_seq (T_reg ?_)
       refine R_q _ rfl (v_fieldP (ov rfl) rfl rfl tF55_1) ?_
       refine R_q _ rfl (v_loadS (ov rfl) rfl rfl rfl tS9 rfl) ?_
       refine R_q _ rfl (v_fieldP (ov rfl) rfl rfl tF55_1) ?_
       refine R_q _ rfl (v_loadS (ov rfl) rfl rfl rfl tS9 rfl) ?_
       refine R_q _ rfl (v_eqlStr (ov rfl) (ov rfl)) ?_
       refine R_nil ?_
       refine T_keep (kc 1 rfl <| kc 4 rfl <| kc 13 rfl <| kc 14 rfl <| kc 15 rfl <| kc 28 rfl <| kc 29 rfl <| kc 30 rfl <| kc 38 rfl <| kn) rfl ?_
       refine T_if h rfl (fun b38 h => ?_) (fun b38 h => ?_)
       ·
        refine T_keep (kn) rfl ?_
        refine T_seq (T_reg ?_)
        refine R_q _ rfl (v_assign (ov rfl)) ?_
        refine R_nil ?_
        rw [lx h] at ho2
        replace h := ho2
        rw [lx h] at ho1
        replace h := ho1
        obtain rfl := rt (v := 5) h
        refine T_ret (retq ?_ (.one (.tmp rfl (Dat.view (.b rfl)))))
        rfl
       ·
        refine T_skip ?_
        refine T_keep (kc 1 rfl <| kc 4 rfl <| kc 13 rfl <| kc 14 rfl <| kc 15 rfl <| kc 28 rfl <| kc 29 rfl <| kc 30 rfl <| kn) rfl ?_
        refine T_reg ?_
        refine R_q _ rfl (v_add (ov rfl) (ov rfl) rfl) ?_
        refine R_q _ rfl (v_move (ov rfl)) ?_
        refine R_nil ?_
        exact ⟨(i64 (i2 + 1)), h, Ent.sel [some 0] (sd 1 rfl rfl <| sr 4 rfl (.ptr _ _ _ rfl) <| sd 13 rfl rfl <| sd 14 rfl rfl <| sd 15 rfl rfl <| sd 28 rfl rfl <| sd 29 rfl rfl <| sd 30 rfl rfl <| sn) (.cons rfl (ro1 (by exact tZ_55.symm) (rld rfl)) <| .nil) rfl rfl⟩
      ·
       refine T_exit ?_
       rw [lx h] at ho2
       replace h := ho2
       exact ⟨(), h, Ent.sel [] (sd 1 rfl rfl <| sd 13 rfl rfl <| sd 14 rfl rfl <| sd 15 rfl rfl <| sn) (.nil) rfl rfl⟩
    ·
     replace h := elr h
     cases j
     replace h := t0i h
     refine t0T ?_
     refine T_reg ?_
     refine R_q _ rfl (v_add (ov rfl) (ov rfl) rfl) ?_
     refine R_q _ rfl (v_move (ov rfl)) ?_
     refine R_nil ?_
     exact ⟨(i64 (i + 1)), h, Ent.sel [] (sd 1 rfl rfl <| sd 13 rfl rfl <| sd 14 rfl rfl <| sd 15 rfl rfl <| sn) (.nil) rfl rfl⟩
   ·
    refine T_exit ?_
    rw [lx h] at ho1
    replace h := ho1
    exact ⟨(), h, Ent.sel [] (sn) (.nil) rfl rfl⟩
  ·
   replace h := elr h
   cases j
   replace h := t0i h
   refine t0T ?_
   refine T_seq (T_reg ?_)
   refine R_q _ rfl (v_assign (ov rfl)) ?_
   refine R_nil ?_
   obtain rfl := rt (v := 0) h
   refine T_ret (retq ?_ (.one (.tmp rfl (Dat.view (.b rfl)))))
   rfl

theorem ok_ref6_words  {r : (List Str)} (h : ref6_words  = some r) :
  CSpec Tryz.prog gl0 183 [] (.sl 9 (List.map R9 r)) := by
 unfold ref6_words at h
 replace h := bnd0 h
 refine spec_of (by kernel_rfl) Tryz.func183 rfl rfl ?_
 intro w0 A
 refine T_seq (T_reg ?_)
 refine R_q _ rfl (v_assign (ov rfl)) ?_
 refine R_nil ?_
 refine T_seq (T_reg ?_)
 refine R_q (.sl 9 (List.map R9 ([[112, 104, 97, 115, 101], [109, 111, 118, 101], [114, 117, 108, 101], [105, 102], [111, 114], [97, 110, 100], [116, 114, 117, 101], [102, 97, 108, 115, 101], [115, 116, 101, 97, 100, 121], [110, 111, 116], [102, 111, 114], [119, 105, 116, 104, 105, 110], [99, 111, 117, 110, 116], [111, 102], [114, 105, 115, 101, 115], [115, 105, 110, 99, 101]] : List Str))) rfl (v_lit tL187 (.cons (cvs (ov rfl) (cell1_b rfl)) rfl (.cons (.b rfl) .nil) <| .cons (cvs (ov rfl) (cell1_b rfl)) rfl (.cons (.b rfl) .nil) <| .cons (cvs (ov rfl) (cell1_b rfl)) rfl (.cons (.b rfl) .nil) <| .cons (cvs (ov rfl) (cell1_b rfl)) rfl (.cons (.b rfl) .nil) <| .cons (cvs (ov rfl) (cell1_b rfl)) rfl (.cons (.b rfl) .nil) <| .cons (cvs (ov rfl) (cell1_b rfl)) rfl (.cons (.b rfl) .nil) <| .cons (cvs (ov rfl) (cell1_b rfl)) rfl (.cons (.b rfl) .nil) <| .cons (cvs (ov rfl) (cell1_b rfl)) rfl (.cons (.b rfl) .nil) <| .cons (cvs (ov rfl) (cell1_b rfl)) rfl (.cons (.b rfl) .nil) <| .cons (cvs (ov rfl) (cell1_b rfl)) rfl (.cons (.b rfl) .nil) <| .cons (cvs (ov rfl) (cell1_b rfl)) rfl (.cons (.b rfl) .nil) <| .cons (cvs (ov rfl) (cell1_b rfl)) rfl (.cons (.b rfl) .nil) <| .cons (cvs (ov rfl) (cell1_b rfl)) rfl (.cons (.b rfl) .nil) <| .cons (cvs (ov rfl) (cell1_b rfl)) rfl (.cons (.b rfl) .nil) <| .cons (cvs (ov rfl) (cell1_b rfl)) rfl (.cons (.b rfl) .nil) <| .cons (cvs (ov rfl) (cell1_b rfl)) rfl (.cons (.b rfl) .nil) <| .nil) rfl rfl) ?_
 refine R_q _ rfl (v_assign (ov rfl)) ?_
 refine R_nil ?_
 obtain rfl := rt (v := ([[112, 104, 97, 115, 101], [109, 111, 118, 101], [114, 117, 108, 101], [105, 102], [111, 114], [97, 110, 100], [116, 114, 117, 101], [102, 97, 108, 115, 101], [115, 116, 101, 97, 100, 121], [110, 111, 116], [102, 111, 114], [119, 105, 116, 104, 105, 110], [99, 111, 117, 110, 116], [111, 102], [114, 105, 115, 101, 115], [115, 105, 110, 99, 101]] : List Str)) h
 refine T_ret (retq ?_ (.one (.tmp rfl (Dat.view (.b rfl)))))
 rfl

theorem ok_ref6_Reserved {s : Str} {r : Bool} (h : ref6_Reserved s = some r) :
  CSpec Tryz.prog gl0 159 [.str s] (.bool r) := by
 unfold ref6_Reserved at h
 replace h := bnd0 h
 refine spec_of (by kernel_rfl) Tryz.func159 rfl rfl ?_
 intro w0 A
 refine T_seq (T_reg ?_)
 refine R_q _ rfl (v_assign (ov rfl)) ?_
 refine R_nil ?_
 refine T_keep (kc 0 rfl <| kn) rfl ?_
 refine T_seq (T_reg ?_)
 obtain ⟨y, h_y, h⟩ := bnd h
 refine R_q _ rfl (v_call (ok_ref6_words h_y) (.nil)) ?_
 refine R_q _ rfl (v_assign (ov rfl)) ?_
 refine R_nil ?_
 refine T_joinG (fun j => (.inr j)) (t0 ⟨[], []⟩) h (fun h => ?_) (fun j h => ?_)
 ·
  refine T_keep (kc 0 rfl <| kc 3 rfl <| kn) rfl ?_
  refine T_seq (T_reg ?_)
  refine R_q _ rfl (v_assign (ov rfl)) ?_
  refine R_nil ?_
  refine T_block ?_
  obtain ⟨r1, hl1, ho1⟩ := bndL h
  refine T_loopG _ (t1 fun i => ⟨[(0, .str s), (3, .sl 9 (List.map R9 y)), (4, .int .i64 i)], []⟩) _ hl1 (Ent.sel [] (sd 0 rfl rfl <| sd 3 rfl rfl <| sd 4 rfl rfl <| sn) (.nil) rfl rfl) (fun n1 s1 h => ?_)
  obtain ⟨i, rfl⟩ : ∃ x, x = s1 := ⟨_, rfl⟩
  replace h := t1i h
  refine t1T ?_
  unfold ref6_Reserved_L1 at h
  refine T_seq ?_
  refine T_seq (T_reg ?_)
  refine R_q _ rfl (v_move (ov rfl)) ?_
  refine R_q _ rfl (v_move (ov rfl)) ?_
  refine R_q _ rfl (v_len (slv_sl (ov rfl) tZ_9) tL187 (len_map _ _)) ?_
  refine R_q _ rfl (v_lss (ov rfl) (ov rfl)) ?_
  refine R_nil ?_
  refine T_keep (kc 0 rfl <| kc 3 rfl <| kc 4 rfl <| kc 9 rfl <| kn) rfl ?_
  refine T_if h rfl (fun b9 h => ?_) (fun b9 h => ?_)
  ·
   refine T_skip ?_
   refine T_seq ?_
   refine T_block ?_
   refine T_keep (kc 0 rfl <| kc 3 rfl <| kc 4 rfl <| kn) rfl ?_
   refine T_seq (T_reg ?_)
   refine R_q _ rfl (v_move (ov rfl)) ?_
   refine R_q _ rfl (v_move (ov rfl)) ?_
   obtain ⟨x, h_x, h⟩ := bnd h
   refine R_q _ rfl (v_ixSG (ov rfl) (ov rfl) tL187 h_x) ?_
   refine R_q _ rfl (v_loadS_r (ov rfl) tS9 rfl) ?_
   refine R_q _ rfl (v_move (ov rfl)) ?_
   refine R_q _ rfl (v_eqlStr (ov rfl) (ov rfl)) ?_
   refine R_nil ?_
   refine T_keep (kc 0 rfl <| kc 3 rfl <| kc 4 rfl <| kc 17 rfl <| kn) rfl ?_
   refine T_if h rfl (fun b17 h => ?_) (fun b17 h => ?_)
   ·
    refine T_keep (kn) rfl ?_
    refine T_seq (T_reg ?_)
    refine R_q _ rfl (v_assign (ov rfl)) ?_
    refine R_nil ?_
    rw [lx h] at ho1
    replace h := ho1
    obtain rfl := rt (v := true) h
    refine T_ret (retq ?_ (.one (.tmp rfl (Dat.view (.b rfl)))))
    rfl
   ·
    refine T_skip ?_
    refine T_keep (kc 0 rfl <| kc 3 rfl <| kc 4 rfl <| kn) rfl ?_
    refine T_reg ?_
    refine R_q _ rfl (v_move (ov rfl)) ?_
    refine R_q _ rfl (v_add (ov rfl) (ov rfl) rfl) ?_
    refine R_q _ rfl (v_assign (ov rfl)) ?_
    refine R_nil ?_
    exact ⟨(i64 (i + 1)), h, Ent.sel [] (sd 0 rfl rfl <| sd 3 rfl rfl <| sd 4 rfl rfl <| sn) (.nil) rfl rfl⟩
  ·
   refine T_exit ?_
   rw [lx h] at ho1
   replace h := ho1
   exact ⟨(), h, Ent.sel [] (sn) (.nil) rfl rfl⟩
 ·
  replace h := elr h
  cases j
  replace h := t0i h
  refine t0T ?_
  refine T_seq (T_reg ?_)
  refine R_q _ rfl (v_assign (ov rfl)) ?_
  refine R_nil ?_
  obtain rfl := rt (v := false) h
  refine T_ret (retq ?_ (.one (.tmp rfl (Dat.view (.b rfl)))))
  rfl

theorem ok_ref6_IsName {s : Str} {r : Bool} (h : ref6_IsName s = some r) :
  CSpec Tryz.prog gl0 124 [.str s] (.bool r) := by
 unfold ref6_IsName at h
 replace h := bnd0 h
 refine spec_of (by kernel_rfl) Tryz.func124 rfl rfl ?_
 intro w0 A
 refine T_seq (T_reg ?_)
 refine R_q _ rfl (v_assign (ov rfl)) ?_
 refine R_nil ?_
 refine T_joinG (fun j => (.inr j)) (t0 ⟨[(0, .str s)], []⟩) h (fun h => ?_) (fun j h => ?_)
 ·
  refine T_keep (kc 0 rfl <| kn) rfl ?_
  refine T_seq (T_reg ?_)
  refine R_q _ rfl (v_assign (ov rfl)) ?_
  refine R_nil ?_
  refine T_block ?_
  obtain ⟨r1, hl1, ho1⟩ := bndL h
  refine T_loopG _ (t1 fun i => ⟨[(0, .str s), (3, .int .i64 i)], []⟩) _ hl1 (Ent.sel [] (sd 0 rfl rfl <| sd 3 rfl rfl <| sn) (.nil) rfl rfl) (fun n1 s1 h => ?_)
  obtain ⟨i, rfl⟩ : ∃ x, x = s1 := ⟨_, rfl⟩
  replace h := t1i h
  refine t1T ?_
  unfold ref6_IsName_L1 at h
  refine T_seq ?_
  refine T_seq (T_reg ?_)
  refine R_q _ rfl (v_move (ov rfl)) ?_
  refine R_q _ rfl (v_move (ov rfl)) ?_
  refine R_q _ rfl (v_lenStr (ov rfl) tStr9 rfl) ?_
  refine R_q _ rfl (v_lss (ov rfl) (ov rfl)) ?_
  refine R_nil ?_
  refine T_keep (kc 0 rfl <| kc 3 rfl <| kc 8 rfl <| kn) rfl ?_
  refine T_if h rfl (fun b8 h => ?_) (fun b8 h => ?_)
  ·
   refine T_skip ?_
   refine T_seq ?_
   refine T_block ?_
   refine T_keep (kc 0 rfl <| kc 3 rfl <| kn) rfl ?_
   refine T_seq (T_reg ?_)
   refine R_q _ rfl (v_move (ov rfl)) ?_
   refine R_q _ rfl (v_move (ov rfl)) ?_
   obtain ⟨b, h_b, h⟩ := bnd h
   refine R_q _ rfl (v_idxStr (ov rfl) (ov rfl) tStr9 h_b) ?_
   refine R_q _ rfl (v_assign (ov rfl)) ?_
   refine R_nil ?_
   refine T_keep (kc 0 rfl <| kc 3 rfl <| kc 4 rfl <| kn) rfl ?_
   refine T_seq (T_reg ?_)
   refine R_q _ rfl (v_move (ov rfl)) ?_
   refine R_q _ rfl (v_geq (ov rfl) (ov rfl)) ?_
   refine R_q _ rfl (v_move (ov rfl)) ?_
   refine R_q _ rfl (.guarded ((decide (97 ≤ b)) == true) rfl rfl rfl rfl fun h => v_move (ov rfl)) ?_
   refine R_q _ rfl (.guarded ((decide (97 ≤ b)) == true) rfl rfl rfl rfl fun h => v_leq (ow rfl h) (ov rfl)) ?_
   refine R_q _ rfl (v_and (ov rfl) (fun hp => ow rfl (gT hp))) ?_
   refine R_q _ rfl (v_move (ov rfl)) ?_
   refine R_q _ rfl (.guarded (((decide (97 ≤ b)) && (decide (b ≤ 122))) == false) rfl rfl rfl rfl fun h => v_move (ov rfl)) ?_
   refine R_q _ rfl (.guarded (((decide (97 ≤ b)) && (decide (b ≤ 122))) == false) rfl rfl rfl rfl fun h => v_gtr (ow rfl h) (ov rfl)) ?_
   refine R_q _ rfl (.guarded (((decide (97 ≤ b)) && (decide (b ≤ 122))) == false) rfl rfl rfl rfl fun h => v_move (ow rfl h)) ?_
   refine R_q _ rfl (.guarded2 ((((decide (97 ≤ b)) && (decide (b ≤ 122))) == false) && ((decide (0 < i)) == true)) rfl rfl rfl rfl fun h => v_move (ov rfl)) ?_
   refine R_q _ rfl (.guarded2 ((((decide (97 ≤ b)) && (decide (b ≤ 122))) == false) && ((decide (0 < i)) == true)) rfl rfl rfl rfl fun h => v_geq (ow rfl h) (ov rfl)) ?_
   refine R_q _ rfl (.guarded2 ((((decide (97 ≤ b)) && (decide (b ≤ 122))) == false) && ((decide (0 < i)) == true)) rfl rfl rfl rfl fun h => v_move (ow rfl h)) ?_
   refine R_q _ rfl (.guarded2 (((((decide (97 ≤ b)) && (decide (b ≤ 122))) == false) && ((decide (0 < i)) == true)) && ((decide (48 ≤ b)) == true)) rfl rfl rfl rfl fun h => v_move (ov rfl)) ?_
   refine R_q _ rfl (.guarded2 (((((decide (97 ≤ b)) && (decide (b ≤ 122))) == false) && ((decide (0 < i)) == true)) && ((decide (48 ≤ b)) == true)) rfl rfl rfl rfl fun h => v_leq (ow rfl h) (ov rfl)) ?_
   refine R_q _ rfl (.guarded2 ((((decide (97 ≤ b)) && (decide (b ≤ 122))) == false) && ((decide (0 < i)) == true)) rfl rfl rfl rfl fun h => v_and (ow rfl h) (fun hp => ow rfl (gA h (gT hp)))) ?_
   refine R_q _ rfl (.guarded2 ((((decide (97 ≤ b)) && (decide (b ≤ 122))) == false) && ((decide (0 < i)) == true)) rfl rfl rfl rfl fun h => v_move (ow rfl h)) ?_
   refine R_q _ rfl (.guarded2 (((((decide (97 ≤ b)) && (decide (b ≤ 122))) == false) && ((decide (0 < i)) == true)) && (((decide (48 ≤ b)) && (decide (b ≤ 57))) == false)) rfl rfl rfl rfl fun h => v_move (ov rfl)) ?_
   refine R_q _ rfl (.guarded2 (((((decide (97 ≤ b)) && (decide (b ≤ 122))) == false) && ((decide (0 < i)) == true)) && (((decide (48 ≤ b)) && (decide (b ≤ 57))) == false)) rfl rfl rfl rfl fun h => v_eql (ow rfl h) (ov rfl)) ?_
   refine R_q _ rfl (.guarded2 ((((decide (97 ≤ b)) && (decide (b ≤ 122))) == false) && ((decide (0 < i)) == true)) rfl rfl rfl rfl fun h => v_or (ow rfl h) (fun hp => ow rfl (gA h (gF hp)))) ?_
   refine R_q _ rfl (.guarded (((decide (97 ≤ b)) && (decide (b ≤ 122))) == false) rfl rfl rfl rfl fun h => v_and (ow rfl h) (fun hp => ow rfl (gA h (gT hp)))) ?_
   refine R_q _ rfl (v_or (ov rfl) (fun hp => ow rfl (gF hp))) ?_
   refine R_q _ rfl (v_not (ov rfl)) ?_
   refine R_nil ?_
   refine T_keep (kc 0 rfl <| kc 3 rfl <| kc 36 rfl <| kn) rfl ?_
   refine T_if h rfl (fun b36 h => ?_) (fun b36 h => ?_)
   ·
    refine T_keep (kn) rfl ?_
    refine T_seq (T_reg ?_)
    refine R_q _ rfl (v_assign (ov rfl)) ?_
    refine R_nil ?_
    rw [lx h] at ho1
    replace h := ho1
    obtain rfl := rt (v := false) h
    refine T_ret (retq ?_ (.one (.tmp rfl (Dat.view (.b rfl)))))
    rfl
   ·
    refine T_skip ?_
    refine T_keep (kc 0 rfl <| kc 3 rfl <| kn) rfl ?_
    refine T_reg ?_
    refine R_q _ rfl (v_move (ov rfl)) ?_
    refine R_q _ rfl (v_add (ov rfl) (ov rfl) rfl) ?_
    refine R_q _ rfl (v_assign (ov rfl)) ?_
    refine R_nil ?_
    exact ⟨(i64 (i + 1)), h, Ent.sel [] (sd 0 rfl rfl <| sd 3 rfl rfl <| sn) (.nil) rfl rfl⟩
  ·
   refine T_exit ?_
   rw [lx h] at ho1
   replace h := ho1
   exact ⟨(), h, Ent.sel [] (sd 0 rfl rfl <| sn) (.nil) rfl rfl⟩
 ·
  replace h := elr h
  cases j
  replace h := t0i h
  refine t0T ?_
  refine T_seq (T_reg ?_)
  refine R_q _ rfl (v_move (ov rfl)) ?_
  refine R_q _ rfl (v_neqStr (ov rfl) (ov rfl)) ?_
  refine R_q _ rfl (v_move (ov rfl)) ?_
  refine R_q _ rfl (.guarded ((!decide (s = [])) == true) rfl rfl rfl rfl fun h => v_move (ov rfl)) ?_
  refine R_q _ rfl (.guarded ((!decide (s = [])) == true) rfl rfl rfl rfl fun h => v_lenStr (ow rfl h) tStr9 rfl) ?_
  refine R_q _ rfl (.guarded ((!decide (s = [])) == true) rfl rfl rfl rfl fun h => v_leq (ow rfl h) (ov rfl)) ?_
  refine R_q _ rfl (v_and (ov rfl) (fun hp => ow rfl (gT hp))) ?_
  refine R_q _ rfl (v_move (ov rfl)) ?_
  refine R_q _ rfl (.guarded (((!decide (s = [])) && (decide ((s.length : Int) ≤ 30))) == true) rfl rfl rfl rfl fun h => v_move (ov rfl)) ?_
  obtain ⟨y, h_y, h⟩ := bnd h
  refine R_q _ rfl (.guarded (((!decide (s = [])) && (decide ((s.length : Int) ≤ 30))) == true) rfl rfl rfl rfl fun h => v_call (ok_ref6_Reserved (gdT h_y h)) (.cons (ow rfl h) (.b rfl) <| .nil)) ?_
  refine R_q _ rfl (.guarded (((!decide (s = [])) && (decide ((s.length : Int) ≤ 30))) == true) rfl rfl rfl rfl fun h => v_not (ow rfl h)) ?_
  refine R_q _ rfl (v_and (ov rfl) (fun hp => ow rfl (gT hp))) ?_
  refine R_q _ rfl (v_assign (ov rfl)) ?_
  refine R_nil ?_
  obtain rfl := rt (v := (((!decide (s = [])) && (decide ((s.length : Int) ≤ 30))) && (!y))) h
  refine T_ret (retq ?_ (.one (.tmp rfl (Dat.view (.b rfl)))))
  rfl

theorem ok_ref5_outside {n : Int} {low : Int} {high : Int} {r : Bool} (h : ref5_outside n low high = some r) :
  CSpec Tryz.prog gl0 161 [.int .i64 n, .int .i64 low, .int .i64 high] (.bool r) := by
 unfold ref5_outside at h
 replace h := bnd0 h
 refine spec_of (by kernel_rfl) Tryz.func161 rfl rfl ?_
 intro w0 A
 refine T_seq (T_reg ?_)
 refine R_q _ rfl (v_assign (ov rfl)) ?_
 refine R_nil ?_
 refine T_seq (T_reg ?_)
 refine R_q _ rfl (v_move (ov rfl)) ?_
 refine R_q _ rfl (v_move (ov rfl)) ?_
 refine R_q _ rfl (v_lss (ov rfl) (ov rfl)) ?_
 refine R_q _ rfl (v_move (ov rfl)) ?_
 refine R_q _ rfl (.guarded ((decide (n < low)) == false) rfl rfl rfl rfl fun h => v_move (ov rfl)) ?_
 refine R_q _ rfl (.guarded ((decide (n < low)) == false) rfl rfl rfl rfl fun h => v_move (ov rfl)) ?_
 refine R_q _ rfl (.guarded ((decide (n < low)) == false) rfl rfl rfl rfl fun h => v_gtr (ow rfl h) (ow rfl h)) ?_
 refine R_q _ rfl (v_or (ov rfl) (fun hp => ow rfl (gF hp))) ?_
 refine R_q _ rfl (v_assign (ov rfl)) ?_
 refine R_nil ?_
 obtain rfl := rt (v := ((decide (n < low)) || (decide (high < n)))) h
 refine T_ret (retq ?_ (.one (.tmp rfl (Dat.view (.b rfl)))))
 rfl

theorem ok_ref5_numbered {mark : Int} {r : Bool} (h : ref5_numbered mark = some r) :
  CSpec Tryz.prog gl0 197 [.int .i64 mark] (.bool r) := by
 unfold ref5_numbered at h
 replace h := bnd0 h
 refine spec_of (by kernel_rfl) Tryz.func197 rfl rfl ?_
 intro w0 A
 refine T_seq (T_reg ?_)
 refine R_q _ rfl (v_assign (ov rfl)) ?_
 refine R_nil ?_
 refine T_seq (T_reg ?_)
 refine R_q _ rfl (v_move (ov rfl)) ?_
 refine R_q _ rfl (v_geq (ov rfl) (ov rfl)) ?_
 refine R_q _ rfl (v_assign (ov rfl)) ?_
 refine R_nil ?_
 obtain rfl := rt (v := (decide (2 ≤ mark))) h
 refine T_ret (retq ?_ (.one (.tmp rfl (Dat.view (.b rfl)))))
 rfl

theorem ok_ref5_sampleFault {s : api_Sample} {r : Int} (h : ref5_sampleFault s = some r) :
  CSpec Tryz.prog gl0 184 [.agg [.int .i64 s.At, .int .i64 s.N, .int .i64 s.Mark]] (.int .i64 r) := by
 unfold ref5_sampleFault at h
 replace h := bnd0 h
 refine spec_of (by kernel_rfl) Tryz.func184 rfl rfl ?_
 intro w0 A
 refine T_seq (T_reg ?_)
 refine R_q _ rfl (v_boxD (cva (ov rfl)) rfl tZ_28 rfl) ?_
 refine R_q _ rfl (v_assign (ov rfl)) ?_
 refine R_nil ?_
 refine T_seq ?_
 refine T_keep (kc 1 rfl <| kn) rfl ?_
 refine T_seq (T_reg ?_)
 refine R_q _ rfl (v_fieldR (ov rfl) tF28_0) ?_
 refine R_q _ rfl (v_loadS_r (ov rfl) tS3 rfl) ?_
 obtain ⟨y, h_y, h⟩ := bnd h
 refine R_q _ rfl (v_call (ok_ref5_outside h_y) (.cons (ov rfl) (.b rfl) <| .cons (ov rfl) (.b rfl) <| .cons (ov rfl) (.b rfl) <| .nil)) ?_
 refine R_q _ rfl (v_move (ov rfl)) ?_
 refine R_q _ rfl (.guarded (y == false) rfl rfl rfl rfl fun h => v_fieldR (ov rfl) tF28_1) ?_
 refine R_q _ rfl (.guarded (y == false) rfl rfl rfl rfl fun h => v_loadS_r (ow rfl h) tS3 rfl) ?_
 obtain ⟨y2, h_y2, h⟩ := bnd h
 refine R_q _ rfl (.guarded (y == false) rfl rfl rfl rfl fun h => v_call (ok_ref5_outside (gdT h_y2 h)) (.cons (ow rfl h) (.b rfl) <| .cons (ov rfl) (.b rfl) <| .cons (ov rfl) (.b rfl) <| .nil)) ?_
 refine R_q _ rfl (v_or (ov rfl) (fun hp => ow rfl (gF hp))) ?_
 refine R_q _ rfl (v_move (ov rfl)) ?_
 refine R_q _ rfl (.guarded ((y || y2) == false) rfl rfl rfl rfl fun h => v_fieldR (ov rfl) tF28_2) ?_
 refine R_q _ rfl (.guarded ((y || y2) == false) rfl rfl rfl rfl fun h => v_loadS_r (ow rfl h) tS3 rfl) ?_
 obtain ⟨y3, h_y3, h⟩ := bnd h
 refine R_q _ rfl (.guarded ((y || y2) == false) rfl rfl rfl rfl fun h => v_call (ok_ref5_outside (gdT h_y3 h)) (.cons (ow rfl h) (.b rfl) <| .cons (ov rfl) (.b rfl) <| .cons (ov rfl) (.b rfl) <| .nil)) ?_
 refine R_q _ rfl (v_or (ov rfl) (fun hp => ow rfl (gF hp))) ?_
 refine R_nil ?_
 refine T_keep (kc 1 rfl <| kc 15 rfl <| kn) rfl ?_
 refine T_if h rfl (fun b15 h => ?_) (fun b15 h => ?_)
 ·
  refine T_keep (kn) rfl ?_
  refine T_seq (T_reg ?_)
  refine R_q _ rfl (v_assign (ov rfl)) ?_
  refine R_nil ?_
  obtain rfl := rt (v := 9) h
  refine T_ret (retq ?_ (.one (.tmp rfl (Dat.view (.b rfl)))))
  rfl
 ·
  refine T_skip ?_
  refine T_seq ?_
  refine T_keep (kc 1 rfl <| kn) rfl ?_
  refine T_seq (T_reg ?_)
  refine R_q _ rfl (v_fieldR (ov rfl) tF28_1) ?_
  refine R_q _ rfl (v_loadS_r (ov rfl) tS3 rfl) ?_
  refine R_q _ rfl (v_neq (ov rfl) (ov rfl)) ?_
  refine R_q _ rfl (v_move (ov rfl)) ?_
  refine R_q _ rfl (.guarded ((!decide (s.N = 0)) == true) rfl rfl rfl rfl fun h => v_fieldR (ov rfl) tF28_2) ?_
  refine R_q _ rfl (.guarded ((!decide (s.N = 0)) == true) rfl rfl rfl rfl fun h => v_loadS_r (ow rfl h) tS3 rfl) ?_
  obtain ⟨y4, h_y4, h⟩ := bnd h
  refine R_q _ rfl (.guarded ((!decide (s.N = 0)) == true) rfl rfl rfl rfl fun h => v_call (ok_ref5_numbered (gdT h_y4 h)) (.cons (ow rfl h) (.b rfl) <| .nil)) ?_
  refine R_q _ rfl (.guarded ((!decide (s.N = 0)) == true) rfl rfl rfl rfl fun h => v_not (ow rfl h)) ?_
  refine R_q _ rfl (v_and (ov rfl) (fun hp => ow rfl (gT hp))) ?_
  refine R_nil ?_
  refine T_keep (kc 24 rfl <| kn) rfl ?_
  refine T_if h rfl (fun b24 h => ?_) (fun b24 h => ?_)
  ·
   refine T_keep (kn) rfl ?_
   refine T_seq (T_reg ?_)
   refine R_q _ rfl (v_assign (ov rfl)) ?_
   refine R_nil ?_
   obtain rfl := rt (v := 2) h
   refine T_ret (retq ?_ (.one (.tmp rfl (Dat.view (.b rfl)))))
   rfl
  ·
   refine T_skip ?_
   refine T_keep (kn) rfl ?_
   refine T_seq (T_reg ?_)
   refine R_q _ rfl (v_assign (ov rfl)) ?_
   refine R_nil ?_
   obtain rfl := rt (v := 0) h
   refine T_ret (retq ?_ (.one (.tmp rfl (Dat.view (.b rfl)))))
   rfl

theorem ok_ref5_fault {s : api_Series} {r : Int × Int} (h : ref5_fault s = some r) :
  CSpec Tryz.prog gl0 160 [.agg [.int .i64 s.Den, .sl 28 (List.map R28 s.Samples)]] (.tuple [.int .i64 r.1, .int .i64 r.2]) := by
 unfold ref5_fault at h
 replace h := bnd0 h
 refine spec_of (by kernel_rfl) Tryz.func160 rfl rfl ?_
 intro w0 A
 refine T_seq (T_reg ?_)
 refine R_q _ rfl (v_boxD (cva (ov rfl)) rfl tZ_24 rfl) ?_
 refine R_q _ rfl (v_assign (ov rfl)) ?_
 refine R_q _ rfl (v_assign (ov rfl)) ?_
 refine R_nil ?_
 refine T_seq ?_
 refine T_keep (kc 1 rfl <| kn) rfl ?_
 refine T_seq (T_reg ?_)
 refine R_q _ rfl (v_fieldR (ov rfl) tF24_0) ?_
 refine R_q _ rfl (v_loadS_r (ov rfl) tS3 rfl) ?_
 obtain ⟨y, h_y, h⟩ := bnd h
 refine R_q _ rfl (v_call (ok_ref5_outside h_y) (.cons (ov rfl) (.b rfl) <| .cons (ov rfl) (.b rfl) <| .cons (ov rfl) (.b rfl) <| .nil)) ?_
 refine R_nil ?_
 refine T_keep (kc 1 rfl <| kc 8 rfl <| kn) rfl ?_
 refine T_if h rfl (fun b8 h => ?_) (fun b8 h => ?_)
 ·
  refine T_keep (kn) rfl ?_
  refine T_seq (T_reg ?_)
  refine R_q _ rfl (v_assign (ov rfl)) ?_
  refine R_q _ rfl (v_assign (ov rfl)) ?_
  refine R_nil ?_
  obtain rfl := rt (v := ((-1), 9)) h
  refine T_ret (retq ?_ (.two (.tmp rfl (Dat.view (.b rfl))) (.tmp rfl (Dat.view (.b rfl)))))
  rfl
 ·
  refine T_skip ?_
  refine T_seq ?_
  refine T_keep (kc 1 rfl <| kn) rfl ?_
  refine T_seq (T_reg ?_)
  refine R_q _ rfl (v_fieldR (ov rfl) tF24_1) ?_
  refine R_q _ rfl (v_loadS_r (ov rfl) tS22 rfl) ?_
  refine R_q _ rfl (v_len (slv_sl (ov rfl) tZ_28) tL22 (len_map _ _)) ?_
  refine R_q _ rfl (v_gtr (ov rfl) (ov rfl)) ?_
  refine R_nil ?_
  refine T_keep (kc 1 rfl <| kc 12 rfl <| kn) rfl ?_
  refine T_if h rfl (fun b12 h => ?_) (fun b12 h => ?_)
  ·
   refine T_keep (kn) rfl ?_
   refine T_seq (T_reg ?_)
   refine R_q _ rfl (v_assign (ov rfl)) ?_
   refine R_q _ rfl (v_assign (ov rfl)) ?_
   refine R_nil ?_
   obtain rfl := rt (v := ((-1), 3)) h
   refine T_ret (retq ?_ (.two (.tmp rfl (Dat.view (.b rfl))) (.tmp rfl (Dat.view (.b rfl)))))
   rfl
  ·
   refine T_skip ?_
   refine T_joinG (fun j => (.inr j)) (t0 ⟨[], []⟩) h (fun h => ?_) (fun j h => ?_)
   ·
    refine T_keep (kc 1 rfl <| kn) rfl ?_
    refine T_seq (T_reg ?_)
    refine R_q _ rfl (v_assign (ov rfl)) ?_
    refine R_nil ?_
    refine T_block ?_
    obtain ⟨r1, hl1, ho1⟩ := bndL h
    refine T_loopG _ (t1 fun i => ⟨[(1, .rp [.int .i64 s.Den, .sl 28 (List.map R28 s.Samples)] 0), (4, .int .i64 i)], []⟩) _ hl1 (Ent.sel [] (sd 1 rfl rfl <| sd 4 rfl rfl <| sn) (.nil) rfl rfl) (fun n1 s1 h => ?_)
    obtain ⟨i, rfl⟩ : ∃ x, x = s1 := ⟨_, rfl⟩
    replace h := t1i h
    refine t1T ?_
    unfold ref5_fault_L1 at h
    refine T_seq ?_
    refine T_seq (T_reg ?_)
    refine R_q _ rfl (v_move (ov rfl)) ?_
    refine R_q _ rfl (v_fieldR (ov rfl) tF24_1) ?_
    refine R_q _ rfl (v_loadS_r (ov rfl) tS22 rfl) ?_
    refine R_q _ rfl (v_len (slv_sl (ov rfl) tZ_28) tL22 (len_map _ _)) ?_
    refine R_q _ rfl (v_lss (ov rfl) (ov rfl)) ?_
    refine R_nil ?_
    refine T_keep (kc 1 rfl <| kc 4 rfl <| kc 17 rfl <| kn) rfl ?_
    refine T_if h rfl (fun b17 h => ?_) (fun b17 h => ?_)
    ·
     refine T_skip ?_
     refine T_seq ?_
     refine T_block ?_
     refine T_seq ?_
     refine T_keep (kc 1 rfl <| kc 4 rfl <| kn) rfl ?_
     refine T_seq (T_reg ?_)
     refine R_q _ rfl (v_fieldR (ov rfl) tF24_1) ?_
     refine R_q _ rfl (v_loadS_r (ov rfl) tS22 rfl) ?_
     refine R_q _ rfl (v_move (ov rfl)) ?_
     obtain ⟨x, h_x, h⟩ := bnd h
     refine R_q _ rfl (v_ixSG (ov rfl) (ov rfl) tL22 h_x) ?_
     refine R_q _ rfl (v_loadA_r (ov rfl) tA28 rfl rfl) ?_
     obtain ⟨y2, h_y2, h⟩ := bnd h
     refine R_q _ rfl (v_call (ok_ref5_sampleFault h_y2) (.cons (ov rfl) (.aggB rfl) <| .nil)) ?_
     refine R_q _ rfl (v_assign (ov rfl)) ?_
     refine R_nil ?_
     refine T_keep (kc 1 rfl <| kc 4 rfl <| kc 5 rfl <| kn) rfl ?_
     refine T_seq (T_reg ?_)
     refine R_q _ rfl (v_move (ov rfl)) ?_
     refine R_q _ rfl (v_neq (ov rfl) (ov rfl)) ?_
     refine R_nil ?_
     refine T_keep (kc 1 rfl <| kc 4 rfl <| kc 5 rfl <| kc 27 rfl <| kn) rfl ?_
     refine T_if h rfl (fun b27 h => ?_) (fun b27 h => ?_)
     ·
      refine T_keep (kc 4 rfl <| kc 5 rfl <| kn) rfl ?_
      refine T_seq (T_reg ?_)
      refine R_q _ rfl (v_move (ov rfl)) ?_
      refine R_q _ rfl (v_move (ov rfl)) ?_
      refine R_q _ rfl (v_assign (ov rfl)) ?_
      refine R_q _ rfl (v_assign (ov rfl)) ?_
      refine R_nil ?_
      rw [lx h] at ho1
      replace h := ho1
      obtain rfl := rt (v := (i, y2)) h
      refine T_ret (retq ?_ (.two (.tmp rfl (Dat.view (.b rfl))) (.tmp rfl (Dat.view (.b rfl)))))
      rfl
     ·
      refine T_skip ?_
      refine T_keep (kc 1 rfl <| kc 4 rfl <| kn) rfl ?_
      refine T_seq (T_draw (cw := md0) (by kernel_rfl) ?_)
      refine D_q0 0 _ rfl (by kernel_rfl) rfl rfl (v_move (ov rfl)) ?_
      refine D_q0 1 _ rfl (by kernel_rfl) rfl rfl (v_gtr (ov rfl) (ov rfl)) ?_
      refine D_q0 2 _ rfl (by kernel_rfl) rfl rfl (v_move (ov rfl)) ?_
      refine D_q0 3 _ rfl (by kernel_rfl) rfl rfl (.guarded ((decide (0 < i)) == true) rfl rfl rfl rfl fun h => v_fieldR (ov rfl) tF24_1) ?_
      refine D_q0 4 _ rfl (by kernel_rfl) rfl rfl (.guarded ((decide (0 < i)) == true) rfl rfl rfl rfl fun h => v_loadS_r (ow rfl h) tS22 rfl) ?_
      refine D_q0 5 _ rfl (by kernel_rfl) rfl rfl (.guarded ((decide (0 < i)) == true) rfl rfl rfl rfl fun h => v_move (ov rfl)) ?_
      obtain ⟨x2, h_x2, h⟩ := bnd h
      refine D_q0 6 _ rfl (by kernel_rfl) rfl rfl (.guarded ((decide (0 < i)) == true) rfl rfl rfl rfl fun h => v_ixSG (ow rfl h) (ow rfl h) tL22 (gdT h_x2 h)) ?_
      refine D_q0 7 _ rfl (by kernel_rfl) rfl rfl (.guarded ((decide (0 < i)) == true) rfl rfl rfl rfl fun h => v_fieldR (ow rfl h) tF28_0) ?_
      refine D_q0 8 _ rfl (by kernel_rfl) rfl rfl (.guarded ((decide (0 < i)) == true) rfl rfl rfl rfl fun h => v_loadS_r (ow rfl h) tS3 rfl) ?_
      refine D_q0 9 _ rfl (by kernel_rfl) rfl rfl (.guarded ((decide (0 < i)) == true) rfl rfl rfl rfl fun h => v_fieldR (ov rfl) tF24_1) ?_
      refine D_q0 10 _ rfl (by kernel_rfl) rfl rfl (.guarded ((decide (0 < i)) == true) rfl rfl rfl rfl fun h => v_loadS_r (ow rfl h) tS22 rfl) ?_
      refine D_q0 11 _ rfl (by kernel_rfl) rfl rfl (.guarded ((decide (0 < i)) == true) rfl rfl rfl rfl fun h => v_move (ov rfl)) ?_
      refine D_q0 12 _ rfl (by kernel_rfl) rfl rfl (.guarded ((decide (0 < i)) == true) rfl rfl rfl rfl fun h => v_sub (ow rfl h) (ov rfl) rfl) ?_
      obtain ⟨x3, h_x3, h⟩ := bnd h
      refine D_q0 13 _ rfl (by kernel_rfl) rfl rfl (.guarded ((decide (0 < i)) == true) rfl rfl rfl rfl fun h => v_ixSG (ow rfl h) (ow rfl h) tL22 (gdT h_x3 h)) ?_
      refine D_q0 14 _ rfl (by kernel_rfl) rfl rfl (.guarded ((decide (0 < i)) == true) rfl rfl rfl rfl fun h => v_fieldR (ow rfl h) tF28_0) ?_
      refine D_q0 15 _ rfl (by kernel_rfl) rfl rfl (.guarded ((decide (0 < i)) == true) rfl rfl rfl rfl fun h => v_loadS_r (ow rfl h) tS3 rfl) ?_
      refine D_q0 16 _ rfl (by kernel_rfl) rfl rfl (.guarded ((decide (0 < i)) == true) rfl rfl rfl rfl fun h => v_leq (ow rfl h) (ow rfl h)) ?_
      refine D_q0 17 _ rfl (by kernel_rfl) rfl rfl (v_and (ov rfl) (fun hp => ow rfl (gT hp))) ?_
      refine D_done (by kernel_rfl) ?_
      refine T_keep (kc 1 rfl <| kc 4 rfl <| kc 47 rfl <| kn) rfl ?_
      refine T_if h rfl (fun b47 h => ?_) (fun b47 h => ?_)
      ·
       refine T_keep (kc 4 rfl <| kn) rfl ?_
       refine T_seq (T_reg ?_)
       refine R_q _ rfl (v_move (ov rfl)) ?_
       refine R_q _ rfl (v_assign (ov rfl)) ?_
       refine R_q _ rfl (v_assign (ov rfl)) ?_
       refine R_nil ?_
       rw [lx h] at ho1
       replace h := ho1
       obtain rfl := rt (v := (i, 10)) h
       refine T_ret (retq ?_ (.two (.tmp rfl (Dat.view (.b rfl))) (.tmp rfl (Dat.view (.b rfl)))))
       rfl
      ·
       refine T_skip ?_
       refine T_keep (kc 1 rfl <| kc 4 rfl <| kn) rfl ?_
       refine T_reg ?_
       refine R_q _ rfl (v_move (ov rfl)) ?_
       refine R_q _ rfl (v_add (ov rfl) (ov rfl) rfl) ?_
       refine R_q _ rfl (v_assign (ov rfl)) ?_
       refine R_nil ?_
       exact ⟨(i64 (i + 1)), h, Ent.sel [] (sd 1 rfl rfl <| sd 4 rfl rfl <| sn) (.nil) rfl rfl⟩
    ·
     refine T_exit ?_
     rw [lx h] at ho1
     replace h := ho1
     exact ⟨(), h, Ent.sel [] (sn) (.nil) rfl rfl⟩
   ·
    replace h := elr h
    cases j
    replace h := t0i h
    refine t0T ?_
    refine T_seq (T_reg ?_)
    refine R_q _ rfl (v_assign (ov rfl)) ?_
    refine R_q _ rfl (v_assign (ov rfl)) ?_
    refine R_nil ?_
    obtain rfl := rt (v := ((-1), 0)) h
    refine T_ret (retq ?_ (.two (.tmp rfl (Dat.view (.b rfl))) (.tmp rfl (Dat.view (.b rfl)))))
    rfl

theorem ok_ref5_Check {s : api_Series} {r : Int} (h : ref5_Check s = some r) :
  CSpec Tryz.prog gl0 125 [.agg [.int .i64 s.Den, .sl 28 (List.map R28 s.Samples)]] (.int .i64 r) := by
 unfold ref5_Check at h
 replace h := bnd0 h
 refine spec_of (by kernel_rfl) Tryz.func125 rfl rfl ?_
 intro w0 A
 refine T_seq (T_reg ?_)
 refine R_q _ rfl (v_boxD (cva (ov rfl)) rfl tZ_24 rfl) ?_
 refine R_q _ rfl (v_assign (ov rfl)) ?_
 refine R_nil ?_
 refine T_keep (kc 1 rfl <| kn) rfl ?_
 refine T_seq (T_reg ?_)
 refine R_q _ rfl (v_loadA_r (ov rfl) tA24 rfl rfl) ?_
 obtain ⟨y, h_y, h⟩ := bnd h
 refine R_q _ rfl (v_call (ok_ref5_fault h_y) (.cons (ov rfl) (.aggB rfl) <| .nil)) ?_
 refine R_q _ rfl (v_move (ov rfl)) ?_
 refine R_q _ rfl (v_extract (ov rfl) rfl) ?_
 refine R_q _ rfl (v_extract (ov rfl) rfl) ?_
 refine R_q _ rfl (v_assign (ov rfl)) ?_
 refine R_q _ rfl (v_assign (ov rfl)) ?_
 refine R_nil ?_
 refine T_keep (kc 4 rfl <| kn) rfl ?_
 refine T_seq (T_reg ?_)
 refine R_q _ rfl (v_move (ov rfl)) ?_
 refine R_q _ rfl (v_assign (ov rfl)) ?_
 refine R_nil ?_
 obtain rfl := rt (v := y.2) h
 refine T_ret (retq ?_ (.one (.tmp rfl (Dat.view (.b rfl)))))
 rfl

theorem ok_ref6_outside {n : Int} {low : Int} {high : Int} {r : Bool} (h : ref6_outside n low high = some r) :
  CSpec Tryz.prog gl0 126 [.int .i64 n, .int .i64 low, .int .i64 high] (.bool r) := by
 unfold ref6_outside at h
 replace h := bnd0 h
 refine spec_of (by kernel_rfl) Tryz.func126 rfl rfl ?_
 intro w0 A
 refine T_seq (T_reg ?_)
 refine R_q _ rfl (v_assign (ov rfl)) ?_
 refine R_nil ?_
 refine T_seq (T_reg ?_)
 refine R_q _ rfl (v_move (ov rfl)) ?_
 refine R_q _ rfl (v_move (ov rfl)) ?_
 refine R_q _ rfl (v_lss (ov rfl) (ov rfl)) ?_
 refine R_q _ rfl (v_move (ov rfl)) ?_
 refine R_q _ rfl (.guarded ((decide (n < low)) == false) rfl rfl rfl rfl fun h => v_move (ov rfl)) ?_
 refine R_q _ rfl (.guarded ((decide (n < low)) == false) rfl rfl rfl rfl fun h => v_move (ov rfl)) ?_
 refine R_q _ rfl (.guarded ((decide (n < low)) == false) rfl rfl rfl rfl fun h => v_gtr (ow rfl h) (ow rfl h)) ?_
 refine R_q _ rfl (v_or (ov rfl) (fun hp => ow rfl (gF hp))) ?_
 refine R_q _ rfl (v_assign (ov rfl)) ?_
 refine R_nil ?_
 obtain rfl := rt (v := ((decide (n < low)) || (decide (high < n)))) h
 refine T_ret (retq ?_ (.one (.tmp rfl (Dat.view (.b rfl)))))
 rfl

theorem ok_ref6_CheckTracks {l : List api_Track} {r : Int} (h : ref6_CheckTracks l = some r) :
  CSpec Tryz.prog gl0 61 [.sl 26 (List.map R26 l)] (.int .i64 r) := by
 unfold ref6_CheckTracks at h
 replace h := bnd0 h
 refine spec_of (by kernel_rfl) Tryz.func61 rfl rfl ?_
 intro w0 A
 refine T_seq (T_reg ?_)
 refine R_q _ rfl (v_assign (ov rfl)) ?_
 refine R_nil ?_
 refine T_seq ?_
 refine T_keep (kc 0 rfl <| kn) rfl ?_
 refine T_seq (T_reg ?_)
 refine R_q _ rfl (v_move (ov rfl)) ?_
 refine R_q _ rfl (v_len (slv_sl (ov rfl) tZ_26) tL42 (len_map _ _)) ?_
 refine R_q _ rfl (v_gtr (ov rfl) (ov rfl)) ?_
 refine R_nil ?_
 refine T_keep (kc 0 rfl <| kc 8 rfl <| kn) rfl ?_
 refine T_if h rfl (fun b8 h => ?_) (fun b8 h => ?_)
 ·
  refine T_keep (kn) rfl ?_
  refine T_seq (T_reg ?_)
  refine R_q _ rfl (v_assign (ov rfl)) ?_
  refine R_nil ?_
  obtain rfl := rt (v := 3) h
  refine T_ret (retq ?_ (.one (.tmp rfl (Dat.view (.b rfl)))))
  rfl
 ·
  refine T_skip ?_
  refine T_joinG (fun j => (.inr j)) (t0 ⟨[], []⟩) h (fun h => ?_) (fun j h => ?_)
  ·
   refine T_keep (kc 0 rfl <| kn) rfl ?_
   refine T_seq (T_reg ?_)
   refine R_q _ rfl (v_assign (ov rfl)) ?_
   refine R_nil ?_
   refine T_block ?_
   obtain ⟨r1, hl1, ho1⟩ := bndL h
   refine T_loopG _ (t1 fun i => ⟨[(0, .sl 26 (List.map R26 l)), (3, .int .i64 i)], []⟩) _ hl1 (Ent.sel [] (sd 0 rfl rfl <| sd 3 rfl rfl <| sn) (.nil) rfl rfl) (fun n1 s1 h => ?_)
   obtain ⟨i, rfl⟩ : ∃ x, x = s1 := ⟨_, rfl⟩
   replace h := t1i h
   refine t1T ?_
   unfold ref6_CheckTracks_L1 at h
   refine T_seq ?_
   refine T_seq (T_reg ?_)
   refine R_q _ rfl (v_move (ov rfl)) ?_
   refine R_q _ rfl (v_move (ov rfl)) ?_
   refine R_q _ rfl (v_len (slv_sl (ov rfl) tZ_26) tL42 (len_map _ _)) ?_
   refine R_q _ rfl (v_lss (ov rfl) (ov rfl)) ?_
   refine R_nil ?_
   refine T_keep (kc 0 rfl <| kc 3 rfl <| kc 12 rfl <| kn) rfl ?_
   refine T_if h rfl (fun b12 h => ?_) (fun b12 h => ?_)
   ·
    refine T_skip ?_
    refine T_seq ?_
    refine T_block ?_
    refine T_seq ?_
    refine T_keep (kc 0 rfl <| kc 3 rfl <| kn) rfl ?_
    refine T_seq (T_reg ?_)
    refine R_q _ rfl (v_move (ov rfl)) ?_
    refine R_q _ rfl (v_move (ov rfl)) ?_
    obtain ⟨x, h_x, h⟩ := bnd h
    refine R_q _ rfl (v_ixSG (ov rfl) (ov rfl) tL42 h_x) ?_
    refine R_q _ rfl (v_fieldR (ov rfl) tF26_0) ?_
    refine R_q _ rfl (v_loadS_r (ov rfl) tS9 rfl) ?_
    obtain ⟨y, h_y, h⟩ := bnd h
    refine R_q _ rfl (v_call (ok_ref6_IsName h_y) (.cons (ov rfl) (.b rfl) <| .nil)) ?_
    refine R_q _ rfl (v_not (ov rfl)) ?_
    refine R_nil ?_
    refine T_keep (kc 0 rfl <| kc 3 rfl <| kc 21 rfl <| kn) rfl ?_
    refine T_if h rfl (fun b21 h => ?_) (fun b21 h => ?_)
    ·
     refine T_keep (kn) rfl ?_
     refine T_seq (T_reg ?_)
     refine R_q _ rfl (v_assign (ov rfl)) ?_
     refine R_nil ?_
     rw [lx h] at ho1
     replace h := ho1
     obtain rfl := rt (v := 8) h
     refine T_ret (retq ?_ (.one (.tmp rfl (Dat.view (.b rfl)))))
     rfl
    ·
     refine T_skip ?_
     refine T_joinG (fun j => (.inr j)) (t0 ⟨[(0, .sl 26 (List.map R26 l)), (3, .int .i64 i)], []⟩) h (fun h => ?_) (fun j h => ?_)
     ·
      refine T_keep (kc 0 rfl <| kc 3 rfl <| kn) rfl ?_
      refine T_seq (T_reg ?_)
      refine R_q _ rfl (v_assign (ov rfl)) ?_
      refine R_nil ?_
      refine T_block ?_
      obtain ⟨r2, hl2, ho2⟩ := bndL h
      refine T_loopG _ (t1 fun k => ⟨[(0, .sl 26 (List.map R26 l)), (3, .int .i64 i), (4, .int .i64 k)], []⟩) _ hl2 (Ent.sel [] (sd 0 rfl rfl <| sd 3 rfl rfl <| sd 4 rfl rfl <| sn) (.nil) rfl rfl) (fun n2 s2 h => ?_)
      obtain ⟨k, rfl⟩ : ∃ x, x = s2 := ⟨_, rfl⟩
      replace h := t1i h
      refine t1T ?_
      unfold ref6_CheckTracks_L2 at h
      refine T_seq ?_
      refine T_seq (T_reg ?_)
      refine R_q _ rfl (v_move (ov rfl)) ?_
      refine R_q _ rfl (v_move (ov rfl)) ?_
      refine R_q _ rfl (v_lss (ov rfl) (ov rfl)) ?_
      refine R_nil ?_
      refine T_keep (kc 0 rfl <| kc 3 rfl <| kc 4 rfl <| kc 24 rfl <| kn) rfl ?_
      refine T_if h rfl (fun b24 h => ?_) (fun b24 h => ?_)
      ·
       refine T_skip ?_
       refine T_seq ?_
       refine T_block ?_
       refine T_keep (kc 0 rfl <| kc 3 rfl <| kc 4 rfl <| kn) rfl ?_
       refine T_seq (T_draw (cw := md0) (by kernel_rfl) ?_)
       refine D_q0 0 _ rfl (by kernel_rfl) rfl rfl (v_move (ov rfl)) ?_
       refine D_q0 1 _ rfl (by kernel_rfl) rfl rfl (v_move (ov rfl)) ?_
       obtain ⟨x2, h_x2, h⟩ := bnd h
       refine D_q0 2 _ rfl (by kernel_rfl) rfl rfl (v_ixSG (ov rfl) (ov rfl) tL42 h_x2) ?_
       refine D_q0 3 _ rfl (by kernel_rfl) rfl rfl (v_fieldR (ov rfl) tF26_0) ?_
       refine D_q0 4 _ rfl (by kernel_rfl) rfl rfl (v_loadS_r (ov rfl) tS9 rfl) ?_
       refine D_q0 5 _ rfl (by kernel_rfl) rfl rfl (v_move (ov rfl)) ?_
       refine D_q0 6 _ rfl (by kernel_rfl) rfl rfl (v_move (ov rfl)) ?_
       obtain ⟨x3, h_x3, h⟩ := bnd h
       refine D_q0 7 _ rfl (by kernel_rfl) rfl rfl (v_ixSG (ov rfl) (ov rfl) tL42 h_x3) ?_
       refine D_q0 8 _ rfl (by kernel_rfl) rfl rfl (v_fieldR (ov rfl) tF26_0) ?_
       refine D_q0 9 _ rfl (by kernel_rfl) rfl rfl (v_loadS_r (ov rfl) tS9 rfl) ?_
       refine D_q0 10 _ rfl (by kernel_rfl) rfl rfl (v_eqlStr (ov rfl) (ov rfl)) ?_
       refine D_done (by kernel_rfl) ?_
       refine T_keep (kc 0 rfl <| kc 3 rfl <| kc 4 rfl <| kc 37 rfl <| kn) rfl ?_
       refine T_if h rfl (fun b37 h => ?_) (fun b37 h => ?_)
       ·
        refine T_keep (kn) rfl ?_
        refine T_seq (T_reg ?_)
        refine R_q _ rfl (v_assign (ov rfl)) ?_
        refine R_nil ?_
        rw [lx h] at ho2
        replace h := ho2
        rw [lx h] at ho1
        replace h := ho1
        obtain rfl := rt (v := 5) h
        refine T_ret (retq ?_ (.one (.tmp rfl (Dat.view (.b rfl)))))
        rfl
       ·
        refine T_skip ?_
        refine T_keep (kc 0 rfl <| kc 3 rfl <| kc 4 rfl <| kn) rfl ?_
        refine T_reg ?_
        refine R_q _ rfl (v_move (ov rfl)) ?_
        refine R_q _ rfl (v_add (ov rfl) (ov rfl) rfl) ?_
        refine R_q _ rfl (v_assign (ov rfl)) ?_
        refine R_nil ?_
        exact ⟨(i64 (k + 1)), h, Ent.sel [] (sd 0 rfl rfl <| sd 3 rfl rfl <| sd 4 rfl rfl <| sn) (.nil) rfl rfl⟩
      ·
       refine T_exit ?_
       rw [lx h] at ho2
       replace h := ho2
       exact ⟨(), h, Ent.sel [] (sd 0 rfl rfl <| sd 3 rfl rfl <| sn) (.nil) rfl rfl⟩
     ·
      replace h := elr h
      cases j
      replace h := t0i h
      refine t0T ?_
      refine T_seq ?_
      refine T_seq (T_reg ?_)
      refine R_q _ rfl (v_move (ov rfl)) ?_
      refine R_q _ rfl (v_move (ov rfl)) ?_
      obtain ⟨x4, h_x4, h⟩ := bnd h
      refine R_q _ rfl (v_ixSG (ov rfl) (ov rfl) tL42 h_x4) ?_
      refine R_q _ rfl (v_fieldR (ov rfl) tF26_1) ?_
      refine R_q _ rfl (v_loadA_r (ov rfl) tA24 rfl rfl) ?_
      obtain ⟨y2, h_y2, h⟩ := bnd h
      refine R_q _ rfl (v_call (ok_ref5_Check h_y2) (.cons (ov rfl) (.aggB rfl) <| .nil)) ?_
      refine R_q _ rfl (v_assign (ov rfl)) ?_
      refine R_nil ?_
      refine T_keep (kc 0 rfl <| kc 3 rfl <| kc 5 rfl <| kn) rfl ?_
      refine T_seq (T_reg ?_)
      refine R_q _ rfl (v_move (ov rfl)) ?_
      refine R_q _ rfl (v_neq (ov rfl) (ov rfl)) ?_
      refine R_nil ?_
      refine T_keep (kc 0 rfl <| kc 3 rfl <| kc 5 rfl <| kc 45 rfl <| kn) rfl ?_
      refine T_if h rfl (fun b45 h => ?_) (fun b45 h => ?_)
      ·
       refine T_keep (kc 5 rfl <| kn) rfl ?_
       refine T_seq (T_reg ?_)
       refine R_q _ rfl (v_move (ov rfl)) ?_
       refine R_q _ rfl (v_assign (ov rfl)) ?_
       refine R_nil ?_
       rw [lx h] at ho1
       replace h := ho1
       obtain rfl := rt (v := y2) h
       refine T_ret (retq ?_ (.one (.tmp rfl (Dat.view (.b rfl)))))
       rfl
      ·
       refine T_skip ?_
       refine T_keep (kc 0 rfl <| kc 3 rfl <| kn) rfl ?_
       refine T_seq (T_reg ?_)
       refine R_q _ rfl (v_move (ov rfl)) ?_
       refine R_q _ rfl (v_move (ov rfl)) ?_
       obtain ⟨x5, h_x5, h⟩ := bnd h
       refine R_q _ rfl (v_ixSG (ov rfl) (ov rfl) tL42 h_x5) ?_
       refine R_q _ rfl (v_fieldR (ov rfl) tF26_2) ?_
       refine R_q _ rfl (v_loadS_r (ov rfl) tS3 rfl) ?_
       obtain ⟨y3, h_y3, h⟩ := bnd h
       refine R_q _ rfl (v_call (ok_ref6_outside h_y3) (.cons (ov rfl) (.b rfl) <| .cons (ov rfl) (.b rfl) <| .cons (ov rfl) (.b rfl) <| .nil)) ?_
       refine R_nil ?_
       refine T_keep (kc 0 rfl <| kc 3 rfl <| kc 52 rfl <| kn) rfl ?_
       refine T_if h rfl (fun b52 h => ?_) (fun b52 h => ?_)
       ·
        refine T_keep (kn) rfl ?_
        refine T_seq (T_reg ?_)
        refine R_q _ rfl (v_assign (ov rfl)) ?_
        refine R_nil ?_
        rw [lx h] at ho1
        replace h := ho1
        obtain rfl := rt (v := 9) h
        refine T_ret (retq ?_ (.one (.tmp rfl (Dat.view (.b rfl)))))
        rfl
       ·
        refine T_skip ?_
        refine T_keep (kc 0 rfl <| kc 3 rfl <| kn) rfl ?_
        refine T_reg ?_
        refine R_q _ rfl (v_move (ov rfl)) ?_
        refine R_q _ rfl (v_add (ov rfl) (ov rfl) rfl) ?_
        refine R_q _ rfl (v_assign (ov rfl)) ?_
        refine R_nil ?_
        exact ⟨(i64 (i + 1)), h, Ent.sel [] (sd 0 rfl rfl <| sd 3 rfl rfl <| sn) (.nil) rfl rfl⟩
   ·
    refine T_exit ?_
    rw [lx h] at ho1
    replace h := ho1
    exact ⟨(), h, Ent.sel [] (sn) (.nil) rfl rfl⟩
  ·
   replace h := elr h
   cases j
   replace h := t0i h
   refine t0T ?_
   refine T_seq (T_reg ?_)
   refine R_q _ rfl (v_assign (ov rfl)) ?_
   refine R_nil ?_
   obtain rfl := rt (v := 0) h
   refine T_ret (retq ?_ (.one (.tmp rfl (Dat.view (.b rfl)))))
   rfl

theorem ok_ref8_track {l : List api_Track} {name : Str} {r : api_Track × Bool} (h : ref8_track l name = some r) :
  CSpec Tryz.prog gl0 99 [.sl 26 (List.map R26 l), .str name] (.tuple [.agg [.str r.1.Name, .int .i64 r.1.Series.Den, .sl 28 (List.map R28 r.1.Series.Samples), .int .i64 r.1.Long], .bool r.2]) := by
 unfold ref8_track at h
 replace h := bnd0 h
 refine spec_of (by kernel_rfl) Tryz.func99 rfl rfl ?_
 intro w0 A
 refine T_seq (T_reg ?_)
 refine R_w _ _ rfl (w_alloc (row := [_, _, _, _]) 0 rfl tZ26 rfl tZ_26) ?_
 refine R_q _ rfl (v_assign (ov rfl)) ?_
 refine R_nil ?_
 refine T_joinG (fun j => (.inr j)) (t0 ⟨[(4, .ptr 0 1 0 0)], [some ⟨26, [[.str [], .int .i64 0, .nils, .int .i64 0]]⟩]⟩) h (fun h => ?_) (fun j h => ?_)
 ·
  refine T_keep (kc 0 rfl <| kc 1 rfl <| kc 4 rfl <| kn) rfl ?_
  refine T_seq (T_reg ?_)
  refine R_q _ rfl (v_move (ov rfl)) ?_
  refine R_q _ rfl (v_len (slv_sl (ov rfl) tZ_26) tL42 (len_map _ _)) ?_
  refine R_q _ rfl (v_move (ov rfl)) ?_
  refine R_nil ?_
  refine T_block ?_
  obtain ⟨r1, hl1, ho1⟩ := bndL h
  refine T_loopG _ (t1 fun i => ⟨[(1, .str name), (4, .ptr 0 1 0 0), (8, .sl 26 (List.map R26 l)), (9, .int .i64 (l.length : Int)), (10, .int .i64 i)], [some ⟨26, [[.str [], .int .i64 0, .nils, .int .i64 0]]⟩]⟩) _ hl1 (Ent.sel [some 0] (sd 1 rfl rfl <| sr 4 rfl (.ptr _ _ _ rfl) <| sd 8 rfl rfl <| sd 9 rfl rfl <| sd 10 rfl rfl <| sn) (.cons rfl (ro1 (by exact tZ_26.symm) (rld rfl)) <| .nil) rfl rfl) (fun n1 s1 h => ?_)
  obtain ⟨i, rfl⟩ : ∃ x, x = s1 := ⟨_, rfl⟩
  replace h := t1i h
  refine t1T ?_
  unfold ref8_track_L1 at h
  refine T_seq (T_reg ?_)
  refine R_q _ rfl (v_lss (ov rfl) (ov rfl)) ?_
  refine R_nil ?_
  refine T_seq ?_
  refine T_if h rfl (fun b11 h => ?_) (fun b11 h => ?_)
  ·
   refine T_skip ?_
   refine T_seq ?_
   refine T_block ?_
   refine T_keep (kc 1 rfl <| kc 4 rfl <| kc 8 rfl <| kc 9 rfl <| kc 10 rfl <| kn) rfl ?_
   refine T_seq (T_reg ?_)
   obtain ⟨x, h_x, h⟩ := bnd h
   refine R_q _ rfl (v_ixSG (ov rfl) (ov rfl) tL42 h_x) ?_
   refine R_q _ rfl (v_loadA_r (ov rfl) tA26 rfl rfl) ?_
   refine R_w _ _ rfl (w_alloc (row := [_, _, _, _]) 1 rfl tZ26 rfl tZ_26) ?_
   refine R_w _ _ rfl (w_store (ov rfl) (ov rfl) (cells_agg tA26 rfl) rfl rfl rfl (Nat.le_of_ble_eq_true rfl) (cell1_all rfl) rfl) ?_
   refine R_nil ?_
   refine T_keep (kc 1 rfl <| kc 4 rfl <| kc 7 rfl <| kc 8 rfl <| kc 9 rfl <| kc 10 rfl <| kn) rfl ?_
   refine T_seq (T_reg ?_)
   refine R_q _ rfl (v_fieldP (ov rfl) rfl rfl tF26_0) ?_
   refine R_q _ rfl (v_loadS (ov rfl) rfl rfl rfl tS9 rfl) ?_
   refine R_q _ rfl (v_move (ov rfl)) ?_
   refine R_q _ rfl (v_eqlStr (ov rfl) (ov rfl)) ?_
   refine R_nil ?_
   refine T_keep (kc 1 rfl <| kc 4 rfl <| kc 7 rfl <| kc 8 rfl <| kc 9 rfl <| kc 10 rfl <| kc 17 rfl <| kn) rfl ?_
   refine T_if h rfl (fun b17 h => ?_) (fun b17 h => ?_)
   ·
    refine T_keep (kc 4 rfl <| kc 7 rfl <| kn) rfl ?_
    refine T_seq (T_reg ?_)
    refine R_q _ rfl (v_loadA (ov rfl) rfl rfl rfl tA26 rfl rfl) ?_
    refine R_w _ _ rfl (w_store (ov rfl) (ov rfl) (cells_agg tA26 rfl) rfl rfl rfl (Nat.le_of_ble_eq_true rfl) (cell1_all rfl) rfl) ?_
    refine R_q _ rfl (v_assign (ov rfl)) ?_
    refine R_nil ?_
    rw [lx h] at ho1
    replace h := ho1
    obtain rfl := rt (v := (x, true)) h
    refine T_ret (retq ?_ (.two (.agg rfl rfl rfl rfl tA26 rfl rfl (pwB rfl)) (.tmp rfl (Dat.view (.b rfl)))))
    rfl
   ·
    refine T_skip ?_
    refine T_keep (kc 1 rfl <| kc 4 rfl <| kc 8 rfl <| kc 9 rfl <| kc 10 rfl <| kn) rfl ?_
    refine T_reg ?_
    refine R_q _ rfl (v_add (ov rfl) (ov rfl) rfl) ?_
    refine R_q _ rfl (v_move (ov rfl)) ?_
    refine R_nil ?_
    exact ⟨(i64 (i + 1)), h, Ent.sel [some 0] (sd 1 rfl rfl <| sr 4 rfl (.ptr _ _ _ rfl) <| sd 8 rfl rfl <| sd 9 rfl rfl <| sd 10 rfl rfl <| sn) (.cons rfl (ro1 (by exact tZ_26.symm) (rld rfl)) <| .nil) rfl rfl⟩
  ·
   refine T_exit ?_
   rw [lx h] at ho1
   replace h := ho1
   exact ⟨(), h, Ent.sel [some 0] (sr 4 rfl (.ptr _ _ _ rfl) <| sn) (.cons rfl (ro1 (by exact tZ_26.symm) (rld rfl)) <| .nil) rfl rfl⟩
 ·
  replace h := elr h
  cases j
  replace h := t0i h
  refine t0T ?_
  refine T_seq (T_reg ?_)
  refine R_q _ rfl (v_build (ys := [_, _, _, _]) tPL26 tHA26 tZ26 (.nil) rfl) ?_
  refine R_w _ _ rfl (w_store (ov rfl) (ov rfl) (cells_agg tA26 rfl) rfl rfl rfl (Nat.le_of_ble_eq_true rfl) (cell1_all rfl) rfl) ?_
  refine R_q _ rfl (v_assign (ov rfl)) ?_
  refine R_nil ?_
  obtain rfl := rt (v := ((api_Track.mk [] (api_Series.mk 0 []) 0), false)) h
  refine T_ret (retq ?_ (.two (.agg rfl rfl rfl rfl tA26 rfl rfl (.cons (Dat.view (.b rfl)) <| .cons (Dat.view (.b rfl)) <| .cons (View.nils 28) <| .cons (Dat.view (.b rfl)) <| .nil)) (.tmp rfl (Dat.view (.b rfl)))))
  rfl

theorem ok_ref8_Fault {p : api_Panel} {l : List api_Track} {r : Int} (h : ref8_Fault p l = some r) :
  CSpec Tryz.prog gl0 73 [.agg [.sl 55 (List.map R55 p.Instruments)], .sl 26 (List.map R26 l)] (.int .i64 r) := by
 unfold ref8_Fault at h
 replace h := bnd0 h
 refine spec_of (by kernel_rfl) Tryz.func73 rfl rfl ?_
 intro w0 A
 refine T_seq (T_reg ?_)
 refine R_q _ rfl (v_boxD (cva (ov rfl)) rfl tZ_41 rfl) ?_
 refine R_q _ rfl (v_assign (ov rfl)) ?_
 refine R_nil ?_
 refine T_seq ?_
 refine T_keep (kc 1 rfl <| kc 2 rfl <| kn) rfl ?_
 refine T_seq (T_reg ?_)
 refine R_q _ rfl (v_loadA_r (ov rfl) tA41 rfl rfl) ?_
 obtain ⟨y, h_y, h⟩ := bnd h
 refine R_q _ rfl (v_call (ok_ref8_Check h_y) (.cons (ov rfl) (.aggB rfl) <| .nil)) ?_
 refine R_q _ rfl (v_assign (ov rfl)) ?_
 refine R_nil ?_
 refine T_keep (kc 1 rfl <| kc 2 rfl <| kc 5 rfl <| kn) rfl ?_
 refine T_seq (T_reg ?_)
 refine R_q _ rfl (v_move (ov rfl)) ?_
 refine R_q _ rfl (v_neq (ov rfl) (ov rfl)) ?_
 refine R_nil ?_
 refine T_keep (kc 1 rfl <| kc 2 rfl <| kc 5 rfl <| kc 14 rfl <| kn) rfl ?_
 refine T_if h rfl (fun b14 h => ?_) (fun b14 h => ?_)
 ·
  refine T_keep (kc 5 rfl <| kn) rfl ?_
  refine T_seq (T_reg ?_)
  refine R_q _ rfl (v_move (ov rfl)) ?_
  refine R_q _ rfl (v_assign (ov rfl)) ?_
  refine R_nil ?_
  obtain rfl := rt (v := y) h
  refine T_ret (retq ?_ (.one (.tmp rfl (Dat.view (.b rfl)))))
  rfl
 ·
  refine T_skip ?_
  refine T_seq ?_
  refine T_keep (kc 1 rfl <| kc 2 rfl <| kn) rfl ?_
  refine T_seq (T_reg ?_)
  refine R_q _ rfl (v_move (ov rfl)) ?_
  obtain ⟨y2, h_y2, h⟩ := bnd h
  refine R_q _ rfl (v_call (ok_ref6_CheckTracks h_y2) (.cons (ov rfl) (.b rfl) <| .nil)) ?_
  refine R_q _ rfl (v_assign (ov rfl)) ?_
  refine R_nil ?_
  refine T_keep (kc 1 rfl <| kc 2 rfl <| kc 6 rfl <| kn) rfl ?_
  refine T_seq (T_reg ?_)
  refine R_q _ rfl (v_move (ov rfl)) ?_
  refine R_q _ rfl (v_neq (ov rfl) (ov rfl)) ?_
  refine R_nil ?_
  refine T_keep (kc 1 rfl <| kc 2 rfl <| kc 6 rfl <| kc 19 rfl <| kn) rfl ?_
  refine T_if h rfl (fun b19 h => ?_) (fun b19 h => ?_)
  ·
   refine T_keep (kc 6 rfl <| kn) rfl ?_
   refine T_seq (T_reg ?_)
   refine R_q _ rfl (v_move (ov rfl)) ?_
   refine R_q _ rfl (v_assign (ov rfl)) ?_
   refine R_nil ?_
   obtain rfl := rt (v := y2) h
   refine T_ret (retq ?_ (.one (.tmp rfl (Dat.view (.b rfl)))))
   rfl
  ·
   refine T_skip ?_
   refine T_joinG (fun j => (.inr j)) (t0 ⟨[], []⟩) h (fun h => ?_) (fun j h => ?_)
   ·
    refine T_keep (kc 1 rfl <| kc 2 rfl <| kn) rfl ?_
    refine T_seq (T_reg ?_)
    refine R_q _ rfl (v_fieldR (ov rfl) tF41_0) ?_
    refine R_q _ rfl (v_loadS_r (ov rfl) tS39 rfl) ?_
    refine R_q _ rfl (v_len (slv_sl (ov rfl) tZ_55) tL39 (len_map _ _)) ?_
    refine R_q _ rfl (v_move (ov rfl)) ?_
    refine R_nil ?_
    refine T_block ?_
    obtain ⟨r1, hl1, ho1⟩ := bndL h
    refine T_loopG _ (t1 fun i => ⟨[(1, .sl 26 (List.map R26 l)), (22, .sl 55 (List.map R55 p.Instruments)), (23, .int .i64 (p.Instruments.length : Int)), (24, .int .i64 i)], []⟩) _ hl1 (Ent.sel [] (sd 1 rfl rfl <| sd 22 rfl rfl <| sd 23 rfl rfl <| sd 24 rfl rfl <| sn) (.nil) rfl rfl) (fun n1 s1 h => ?_)
    obtain ⟨i, rfl⟩ : ∃ x, x = s1 := ⟨_, rfl⟩
    replace h := t1i h
    refine t1T ?_
    unfold ref8_Fault_L1 at h
    refine T_seq (T_reg ?_)
    refine R_q _ rfl (v_lss (ov rfl) (ov rfl)) ?_
    refine R_nil ?_
    refine T_seq ?_
    refine T_if h rfl (fun b25 h => ?_) (fun b25 h => ?_)
    ·
     refine T_skip ?_
     refine T_seq ?_
     refine T_block ?_
     refine T_keep (kc 1 rfl <| kc 22 rfl <| kc 23 rfl <| kc 24 rfl <| kn) rfl ?_
     refine T_seq (T_reg ?_)
     obtain ⟨x, h_x, h⟩ := bnd h
     refine R_q _ rfl (v_ixSG (ov rfl) (ov rfl) tL39 h_x) ?_
     refine R_q _ rfl (v_loadA_r (ov rfl) tA55 rfl rfl) ?_
     refine R_w _ _ rfl (w_alloc (row := [_, _, _, _, _, _, _, _, _, _, _, _]) 0 rfl tZ55 rfl tZ_55) ?_
     refine R_w _ _ rfl (w_store (ov rfl) (ov rfl) (cells_agg tA55 rfl) rfl rfl rfl (Nat.le_of_ble_eq_true rfl) (cell1_all rfl) rfl) ?_
     refine R_nil ?_
     refine T_keep (kc 1 rfl <| kc 8 rfl <| kc 22 rfl <| kc 23 rfl <| kc 24 rfl <| kn) rfl ?_
     refine T_seq (T_reg ?_)
     refine R_q _ rfl (v_move (ov rfl)) ?_
     refine R_q _ rfl (v_fieldP (ov rfl) rfl rfl tF55_2) ?_
     refine R_q _ rfl (v_loadS (ov rfl) rfl rfl rfl tS9 rfl) ?_
     obtain ⟨y3, h_y3, h⟩ := bnd h
     refine R_q _ rfl (v_call (ok_ref8_track h_y3) (.cons (ov rfl) (.b rfl) <| .cons (ov rfl) (.b rfl) <| .nil)) ?_
     refine R_q _ rfl (v_move (ov rfl)) ?_
     refine R_q _ rfl (v_extract (ov rfl) rfl) ?_
     refine R_q _ rfl (v_extract (ov rfl) rfl) ?_
     refine R_w _ _ rfl (w_alloc (row := [_, _, _, _]) 1 rfl tZ26 rfl tZ_26) ?_
     refine R_w _ _ rfl (w_store (ov rfl) (ov rfl) (cells_agg tA26 rfl) rfl rfl rfl (Nat.le_of_ble_eq_true rfl) (cell1_all rfl) rfl) ?_
     refine R_q _ rfl (v_assign (ov rfl)) ?_
     refine R_nil ?_
     refine T_keep (kc 1 rfl <| kc 10 rfl <| kc 22 rfl <| kc 23 rfl <| kc 24 rfl <| kn) rfl ?_
     refine T_seq (T_reg ?_)
     refine R_q _ rfl (v_move (ov rfl)) ?_
     refine R_q _ rfl (v_not (ov rfl)) ?_
     refine R_nil ?_
     refine T_keep (kc 1 rfl <| kc 22 rfl <| kc 23 rfl <| kc 24 rfl <| kc 36 rfl <| kn) rfl ?_
     refine T_if h rfl (fun b36 h => ?_) (fun b36 h => ?_)
     ·
      refine T_keep (kn) rfl ?_
      refine T_seq (T_reg ?_)
      refine R_q _ rfl (v_assign (ov rfl)) ?_
      refine R_nil ?_
      rw [lx h] at ho1
      replace h := ho1
      obtain rfl := rt (v := 4) h
      refine T_ret (retq ?_ (.one (.tmp rfl (Dat.view (.b rfl)))))
      rfl
     ·
      refine T_skip ?_
      refine T_keep (kc 1 rfl <| kc 22 rfl <| kc 23 rfl <| kc 24 rfl <| kn) rfl ?_
      refine T_reg ?_
      refine R_q _ rfl (v_add (ov rfl) (ov rfl) rfl) ?_
      refine R_q _ rfl (v_move (ov rfl)) ?_
      refine R_nil ?_
      exact ⟨(i64 (i + 1)), h, Ent.sel [] (sd 1 rfl rfl <| sd 22 rfl rfl <| sd 23 rfl rfl <| sd 24 rfl rfl <| sn) (.nil) rfl rfl⟩
    ·
     refine T_exit ?_
     rw [lx h] at ho1
     replace h := ho1
     exact ⟨(), h, Ent.sel [] (sn) (.nil) rfl rfl⟩
   ·
    replace h := elr h
    cases j
    replace h := t0i h
    refine t0T ?_
    refine T_seq (T_reg ?_)
    refine R_q _ rfl (v_assign (ov rfl)) ?_
    refine R_nil ?_
    obtain rfl := rt (v := 0) h
    refine T_ret (retq ?_ (.one (.tmp rfl (Dat.view (.b rfl)))))
    rfl

theorem ok_ref8_First {p : api_Panel} {r : api_PanelState × Int} (h : ref8_First p = some r) :
  CSpec Tryz.prog gl0 32 [.agg [.sl 55 (List.map R55 p.Instruments)]] (.tuple [.agg [.int .i64 r.1.Frame, .sl 129 (List.map R129 r.1.Memos)], .int .i64 r.2]) := by
 unfold ref8_First at h
 replace h := bnd0 h
 refine spec_of (by kernel_rfl) Tryz.func32 rfl rfl ?_
 intro w0 A
 refine T_seq (T_reg ?_)
 refine R_q _ rfl (v_boxD (cva (ov rfl)) rfl tZ_41 rfl) ?_
 refine R_w _ _ rfl (w_alloc (row := [_, _]) 0 rfl tZ65 rfl tZ_65) ?_
 refine R_q _ rfl (v_assign (ov rfl)) ?_
 refine R_nil ?_
 refine T_seq ?_
 refine T_keep (kc 1 rfl <| kc 2 rfl <| kn) rfl ?_
 refine T_seq (T_reg ?_)
 refine R_q _ rfl (v_loadA_r (ov rfl) tA41 rfl rfl) ?_
 obtain ⟨y, h_y, h⟩ := bnd h
 refine R_q _ rfl (v_call (ok_ref8_Check h_y) (.cons (ov rfl) (.aggB rfl) <| .nil)) ?_
 refine R_q _ rfl (v_assign (ov rfl)) ?_
 refine R_nil ?_
 refine T_keep (kc 1 rfl <| kc 2 rfl <| kc 4 rfl <| kn) rfl ?_
 refine T_seq (T_reg ?_)
 refine R_q _ rfl (v_move (ov rfl)) ?_
 refine R_q _ rfl (v_neq (ov rfl) (ov rfl)) ?_
 refine R_nil ?_
 refine T_keep (kc 1 rfl <| kc 2 rfl <| kc 4 rfl <| kc 8 rfl <| kn) rfl ?_
 refine T_if h rfl (fun b8 h => ?_) (fun b8 h => ?_)
 ·
  refine T_keep (kc 2 rfl <| kc 4 rfl <| kn) rfl ?_
  refine T_seq (T_reg ?_)
  refine R_q _ rfl (v_build (ys := [_, _]) tPL65 tHA65 tZ65 (.nil) rfl) ?_
  refine R_q _ rfl (v_move (ov rfl)) ?_
  refine R_w _ _ rfl (w_store (ov rfl) (ov rfl) (cells_agg tA65 rfl) rfl rfl rfl (Nat.le_of_ble_eq_true rfl) (cell1_all rfl) rfl) ?_
  refine R_q _ rfl (v_assign (ov rfl)) ?_
  refine R_nil ?_
  obtain rfl := rt (v := ((api_PanelState.mk 0 []), y)) h
  refine T_ret (retq ?_ (.two (.agg rfl rfl rfl rfl tA65 rfl rfl (.cons (Dat.view (.b rfl)) <| .cons (View.nils 129) <| .nil)) (.tmp rfl (Dat.view (.b rfl)))))
  rfl
 ·
  refine T_skip ?_
  refine T_keep (kc 1 rfl <| kc 2 rfl <| kn) rfl ?_
  refine T_seq (T_reg ?_)
  refine R_q _ rfl (v_fieldR (ov rfl) tF41_0) ?_
  refine R_q _ rfl (v_loadS_r (ov rfl) tS39 rfl) ?_
  refine R_q _ rfl (v_len (slv_sl (ov rfl) tZ_55) tL39 (len_map _ _)) ?_
  obtain ⟨l, h_l, h⟩ := bnd h
  refine R_w _ _ rfl (w_makeG [none, none, none, none, some 3] (r := 1) (f := R129) (z0 := (api_Memo.mk false false 0 0 [])) rfl (ov rfl) (ov rfl) tL63 rfl tZ129 rfl rfl h_l) ?_
  refine R_q _ rfl (v_build (ys := [_, _]) tPL65 tHA65 tZ65 (.cons (cvs (ov rfl) (cell1_b rfl)) <| .cons (cvs (ov rfl) (cell1_b rfl)) <| .nil) rfl) ?_
  refine R_w _ _ rfl (w_store (ov rfl) (ov rfl) (cells_agg tA65 rfl) rfl rfl rfl (Nat.le_of_ble_eq_true rfl) (cell1_all rfl) rfl) ?_
  refine R_q _ rfl (v_assign (ov rfl)) ?_
  refine R_nil ?_
  obtain rfl := rt (v := ((api_PanelState.mk (-1) l), 0)) h
  refine T_ret (retq ?_ (.two (.agg rfl rfl rfl rfl tA65 rfl rfl (.cons (Dat.view (.b rfl)) <| .cons (View.ownM rfl rfl D129) <| .nil)) (.tmp rfl (Dat.view (.b rfl)))))
  rfl

theorem ok_ref5_solid {mark : Int} {r : Bool} (h : ref5_solid mark = some r) :
  CSpec Tryz.prog gl0 185 [.int .i64 mark] (.bool r) := by
 unfold ref5_solid at h
 replace h := bnd0 h
 refine spec_of (by kernel_rfl) Tryz.func185 rfl rfl ?_
 intro w0 A
 refine T_seq (T_reg ?_)
 refine R_q _ rfl (v_assign (ov rfl)) ?_
 refine R_nil ?_
 refine T_seq (T_reg ?_)
 refine R_q _ rfl (v_move (ov rfl)) ?_
 refine R_q _ rfl (v_geq (ov rfl) (ov rfl)) ?_
 refine R_q _ rfl (v_assign (ov rfl)) ?_
 refine R_nil ?_
 obtain rfl := rt (v := (decide (3 ≤ mark))) h
 refine T_ret (retq ?_ (.one (.tmp rfl (Dat.view (.b rfl)))))
 rfl

theorem ok_ref5_Held {s : api_Series} {at_ : Int} {long : Int} {r : api_Sample × Bool} (h : ref5_Held s at_ long = some r) :
  CSpec Tryz.prog gl0 162 [.agg [.int .i64 s.Den, .sl 28 (List.map R28 s.Samples)], .int .i64 at_, .int .i64 long] (.tuple [.agg [.int .i64 r.1.At, .int .i64 r.1.N, .int .i64 r.1.Mark], .bool r.2]) := by
 unfold ref5_Held at h
 replace h := bnd0 h
 refine spec_of (by kernel_rfl) Tryz.func162 rfl rfl ?_
 intro w0 A
 refine T_seq (T_reg ?_)
 refine R_q _ rfl (v_boxD (cva (ov rfl)) rfl tZ_24 rfl) ?_
 refine R_w _ _ rfl (w_alloc (row := [_, _, _]) 0 rfl tZ28 rfl tZ_28) ?_
 refine R_q _ rfl (v_assign (ov rfl)) ?_
 refine R_nil ?_
 refine T_keep (kc 1 rfl <| kc 2 rfl <| kc 3 rfl <| kc 6 rfl <| kn) rfl ?_
 refine T_seq (T_draw (cw := md0) (by kernel_rfl) ?_)
 refine D_q0 0 _ rfl (by kernel_rfl) rfl rfl (v_fieldR (ov rfl) tF24_1) ?_
 refine D_q0 1 _ rfl (by kernel_rfl) rfl rfl (v_loadS_r (ov rfl) tS22 rfl) ?_
 refine D_q0 2 _ rfl (by kernel_rfl) rfl rfl (v_len (slv_sl (ov rfl) tZ_28) tL22 (len_map _ _)) ?_
 refine D_q0 3 _ rfl (by kernel_rfl) rfl rfl (v_assign (ov rfl)) ?_
 refine D_q0 4 _ rfl (by kernel_rfl) rfl rfl (v_assign (ov rfl)) ?_
 refine D_done (by kernel_rfl) ?_
 refine T_joinG id (t1 fun low => ⟨[(1, .int .i64 at_), (2, .int .i64 long), (3, .rp [.int .i64 s.Den, .sl 28 (List.map R28 s.Samples)] 0), (6, .ptr 0 1 0 0), (8, .int .i64 low)], [some ⟨28, [[.int .i64 0, .int .i64 0, .int .i64 0]]⟩]⟩) h (fun h => ?_) (fun j h => ?_)
 ·
  refine T_block ?_
  obtain ⟨r1, hl1, ho1⟩ := bndL h
  refine T_loopG _ (t2 fun low2 high => ⟨[(1, .int .i64 at_), (2, .int .i64 long), (3, .rp [.int .i64 s.Den, .sl 28 (List.map R28 s.Samples)] 0), (6, .ptr 0 1 0 0), (8, .int .i64 low2), (9, .int .i64 high)], [some ⟨28, [[.int .i64 0, .int .i64 0, .int .i64 0]]⟩]⟩) _ hl1 (Ent.sel [some 0] (sd 1 rfl rfl <| sd 2 rfl rfl <| sd 3 rfl rfl <| sr 6 rfl (.ptr _ _ _ rfl) <| sd 8 rfl rfl <| sd 9 rfl rfl <| sn) (.cons rfl (ro1 (by exact tZ_28.symm) (rld rfl)) <| .nil) rfl rfl) (fun n1 s1 h => ?_)
  obtain ⟨low2, high⟩ := s1
  replace h := t2i h
  refine t2T ?_
  unfold ref5_Held_L1 at h
  refine T_seq ?_
  refine T_seq (T_reg ?_)
  refine R_q _ rfl (v_move (ov rfl)) ?_
  refine R_q _ rfl (v_move (ov rfl)) ?_
  refine R_q _ rfl (v_lss (ov rfl) (ov rfl)) ?_
  refine R_nil ?_
  refine T_keep (kc 1 rfl <| kc 2 rfl <| kc 3 rfl <| kc 6 rfl <| kc 8 rfl <| kc 9 rfl <| kc 17 rfl <| kn) rfl ?_
  refine T_if h rfl (fun b17 h => ?_) (fun b17 h => ?_)
  ·
   refine T_skip ?_
   refine T_block ?_
   refine T_keep (kc 1 rfl <| kc 2 rfl <| kc 3 rfl <| kc 6 rfl <| kc 8 rfl <| kc 9 rfl <| kn) rfl ?_
   refine T_seq (T_reg ?_)
   refine R_q _ rfl (v_move (ov rfl)) ?_
   refine R_q _ rfl (v_move (ov rfl)) ?_
   refine R_q _ rfl (v_add (ov rfl) (ov rfl) rfl) ?_
   obtain ⟨q, h_q, h⟩ := bnd h
   refine R_q _ rfl (v_quoG (ov rfl) (ov rfl) h_q) ?_
   refine R_q _ rfl (v_assign (ov rfl)) ?_
   refine R_nil ?_
   refine T_keep (kc 1 rfl <| kc 2 rfl <| kc 3 rfl <| kc 6 rfl <| kc 8 rfl <| kc 9 rfl <| kc 10 rfl <| kn) rfl ?_
   refine T_seq (T_reg ?_)
   refine R_q _ rfl (v_fieldR (ov rfl) tF24_1) ?_
   refine R_q _ rfl (v_loadS_r (ov rfl) tS22 rfl) ?_
   refine R_q _ rfl (v_move (ov rfl)) ?_
   obtain ⟨x, h_x, h⟩ := bnd h
   refine R_q _ rfl (v_ixSG (ov rfl) (ov rfl) tL22 h_x) ?_
   refine R_q _ rfl (v_fieldR (ov rfl) tF28_0) ?_
   refine R_q _ rfl (v_loadS_r (ov rfl) tS3 rfl) ?_
   refine R_q _ rfl (v_move (ov rfl)) ?_
   refine R_q _ rfl (v_leq (ov rfl) (ov rfl)) ?_
   refine R_nil ?_
   refine T_keep (kc 1 rfl <| kc 2 rfl <| kc 3 rfl <| kc 6 rfl <| kc 8 rfl <| kc 9 rfl <| kc 10 rfl <| kc 29 rfl <| kn) rfl ?_
   refine T_if h rfl (fun b29 h => ?_) (fun b29 h => ?_)
   ·
    refine T_keep (kc 1 rfl <| kc 2 rfl <| kc 3 rfl <| kc 6 rfl <| kc 8 rfl <| kc 9 rfl <| kc 10 rfl <| kn) rfl ?_
    refine T_reg ?_
    refine R_q _ rfl (v_move (ov rfl)) ?_
    refine R_q _ rfl (v_add (ov rfl) (ov rfl) rfl) ?_
    refine R_q _ rfl (v_assign (ov rfl)) ?_
    refine R_nil ?_
    exact ⟨((i64 (q + 1)), high), h, Ent.sel [some 0] (sd 1 rfl rfl <| sd 2 rfl rfl <| sd 3 rfl rfl <| sr 6 rfl (.ptr _ _ _ rfl) <| sd 8 rfl rfl <| sd 9 rfl rfl <| sn) (.cons rfl (ro1 (by exact tZ_28.symm) (rld rfl)) <| .nil) rfl rfl⟩
   ·
    refine T_keep (kc 1 rfl <| kc 2 rfl <| kc 3 rfl <| kc 6 rfl <| kc 8 rfl <| kc 9 rfl <| kc 10 rfl <| kn) rfl ?_
    refine T_reg ?_
    refine R_q _ rfl (v_move (ov rfl)) ?_
    refine R_q _ rfl (v_assign (ov rfl)) ?_
    refine R_nil ?_
    exact ⟨(low2, q), h, Ent.sel [some 0] (sd 1 rfl rfl <| sd 2 rfl rfl <| sd 3 rfl rfl <| sr 6 rfl (.ptr _ _ _ rfl) <| sd 8 rfl rfl <| sd 9 rfl rfl <| sn) (.cons rfl (ro1 (by exact tZ_28.symm) (rld rfl)) <| .nil) rfl rfl⟩
  ·
   refine T_exit ?_
   rw [lx h] at ho1
   replace h := ho1
   exact ⟨low2, h, Ent.sel [some 0] (sd 1 rfl rfl <| sd 2 rfl rfl <| sd 3 rfl rfl <| sr 6 rfl (.ptr _ _ _ rfl) <| sd 8 rfl rfl <| sn) (.cons rfl (ro1 (by exact tZ_28.symm) (rld rfl)) <| .nil) rfl rfl⟩
 ·
  obtain ⟨low, rfl⟩ : ∃ x, x = j := ⟨_, rfl⟩
  replace h := t1i h
  refine t1T ?_
  refine T_seq ?_
  refine T_seq (T_reg ?_)
  refine R_q _ rfl (v_move (ov rfl)) ?_
  refine R_q _ rfl (v_eql (ov rfl) (ov rfl)) ?_
  refine R_nil ?_
  refine T_keep (kc 1 rfl <| kc 2 rfl <| kc 3 rfl <| kc 6 rfl <| kc 8 rfl <| kc 34 rfl <| kn) rfl ?_
  refine T_if h rfl (fun b34 h => ?_) (fun b34 h => ?_)
  ·
   refine T_keep (kc 6 rfl <| kn) rfl ?_
   refine T_seq (T_reg ?_)
   refine R_q _ rfl (v_build (ys := [_, _, _]) tPL28 tHA28 tZ28 (.nil) rfl) ?_
   refine R_w _ _ rfl (w_store (ov rfl) (ov rfl) (cells_agg tA28 rfl) rfl rfl rfl (Nat.le_of_ble_eq_true rfl) (cell1_all rfl) rfl) ?_
   refine R_q _ rfl (v_assign (ov rfl)) ?_
   refine R_nil ?_
   obtain rfl := rt (v := ((api_Sample.mk 0 0 0), false)) h
   refine T_ret (retq ?_ (.two (.agg rfl rfl rfl rfl tA28 rfl rfl (pwB rfl)) (.tmp rfl (Dat.view (.b rfl)))))
   rfl
  ·
   refine T_skip ?_
   refine T_keep (kc 1 rfl <| kc 2 rfl <| kc 3 rfl <| kc 6 rfl <| kc 8 rfl <| kn) rfl ?_
   refine T_seq (T_reg ?_)
   refine R_q _ rfl (v_fieldR (ov rfl) tF24_1) ?_
   refine R_q _ rfl (v_loadS_r (ov rfl) tS22 rfl) ?_
   refine R_q _ rfl (v_move (ov rfl)) ?_
   refine R_q _ rfl (v_sub (ov rfl) (ov rfl) rfl) ?_
   obtain ⟨x2, h_x2, h⟩ := bnd h
   refine R_q _ rfl (v_ixSG (ov rfl) (ov rfl) tL22 h_x2) ?_
   refine R_q _ rfl (v_loadA_r (ov rfl) tA28 rfl rfl) ?_
   refine R_w _ _ rfl (w_alloc (row := [_, _, _]) 1 rfl tZ28 rfl tZ_28) ?_
   refine R_w _ _ rfl (w_store (ov rfl) (ov rfl) (cells_agg tA28 rfl) rfl rfl rfl (Nat.le_of_ble_eq_true rfl) (cell1_all rfl) rfl) ?_
   refine R_nil ?_
   refine T_seq ?_
   refine T_keep (kc 1 rfl <| kc 2 rfl <| kc 6 rfl <| kc 11 rfl <| kn) rfl ?_
   refine T_seq (T_reg ?_)
   refine R_q _ rfl (v_fieldP (ov rfl) rfl rfl tF28_2) ?_
   refine R_q _ rfl (v_loadS (ov rfl) rfl rfl rfl tS3 rfl) ?_
   obtain ⟨y, h_y, h⟩ := bnd h
   refine R_q _ rfl (v_call (ok_ref5_solid h_y) (.cons (ov rfl) (.b rfl) <| .nil)) ?_
   refine R_q _ rfl (v_not (ov rfl)) ?_
   refine R_q _ rfl (v_move (ov rfl)) ?_
   refine R_q _ rfl (.guarded ((!y) == false) rfl rfl rfl rfl fun h => v_move (ov rfl)) ?_
   refine R_q _ rfl (.guarded ((!y) == false) rfl rfl rfl rfl fun h => v_fieldP (ov rfl) rfl rfl tF28_0) ?_
   refine R_q _ rfl (.guarded ((!y) == false) rfl rfl rfl rfl fun h => v_loadS (ow rfl h) rfl rfl rfl tS3 rfl) ?_
   refine R_q _ rfl (.guarded ((!y) == false) rfl rfl rfl rfl fun h => v_sub (ow rfl h) (ow rfl h) rfl) ?_
   refine R_q _ rfl (.guarded ((!y) == false) rfl rfl rfl rfl fun h => v_move (ov rfl)) ?_
   refine R_q _ rfl (.guarded ((!y) == false) rfl rfl rfl rfl fun h => v_gtr (ow rfl h) (ow rfl h)) ?_
   refine R_q _ rfl (v_or (ov rfl) (fun hp => ow rfl (gF hp))) ?_
   refine R_nil ?_
   refine T_keep (kc 6 rfl <| kc 11 rfl <| kc 53 rfl <| kn) rfl ?_
   refine T_if h rfl (fun b53 h => ?_) (fun b53 h => ?_)
   ·
    refine T_keep (kc 6 rfl <| kn) rfl ?_
    refine T_seq (T_reg ?_)
    refine R_q _ rfl (v_build (ys := [_, _, _]) tPL28 tHA28 tZ28 (.nil) rfl) ?_
    refine R_w _ _ rfl (w_store (ov rfl) (ov rfl) (cells_agg tA28 rfl) rfl rfl rfl (Nat.le_of_ble_eq_true rfl) (cell1_all rfl) rfl) ?_
    refine R_q _ rfl (v_assign (ov rfl)) ?_
    refine R_nil ?_
    obtain rfl := rt (v := ((api_Sample.mk 0 0 0), false)) h
    refine T_ret (retq ?_ (.two (.agg rfl rfl rfl rfl tA28 rfl rfl (pwB rfl)) (.tmp rfl (Dat.view (.b rfl)))))
    rfl
   ·
    refine T_skip ?_
    refine T_keep (kc 6 rfl <| kc 11 rfl <| kn) rfl ?_
    refine T_seq (T_reg ?_)
    refine R_q _ rfl (v_loadA (ov rfl) rfl rfl rfl tA28 rfl rfl) ?_
    refine R_w _ _ rfl (w_store (ov rfl) (ov rfl) (cells_agg tA28 rfl) rfl rfl rfl (Nat.le_of_ble_eq_true rfl) (cell1_all rfl) rfl) ?_
    refine R_q _ rfl (v_assign (ov rfl)) ?_
    refine R_nil ?_
    obtain rfl := rt (v := (x2, true)) h
    refine T_ret (retq ?_ (.two (.agg rfl rfl rfl rfl tA28 rfl rfl (pwB rfl)) (.tmp rfl (Dat.view (.b rfl)))))
    rfl

theorem ok_ref5_Hold {s : api_Series} {at_ : Int} {long : Int} {r : api_Sample × Bool × Int} (h : ref5_Hold s at_ long = some r) :
  CSpec Tryz.prog gl0 127 [.agg [.int .i64 s.Den, .sl 28 (List.map R28 s.Samples)], .int .i64 at_, .int .i64 long] (.tuple [.agg [.int .i64 r.1.At, .int .i64 r.1.N, .int .i64 r.1.Mark], .bool r.2.1, .int .i64 r.2.2]) := by
 unfold ref5_Hold at h
 replace h := bnd0 h
 refine spec_of (by kernel_rfl) Tryz.func127 rfl rfl ?_
 intro w0 A
 refine T_seq (T_reg ?_)
 refine R_q _ rfl (v_boxD (cva (ov rfl)) rfl tZ_24 rfl) ?_
 refine R_w _ _ rfl (w_alloc (row := [_, _, _]) 0 rfl tZ28 rfl tZ_28) ?_
 refine R_q _ rfl (v_assign (ov rfl)) ?_
 refine R_q _ rfl (v_assign (ov rfl)) ?_
 refine R_nil ?_
 refine T_seq ?_
 refine T_keep (kc 1 rfl <| kc 2 rfl <| kc 3 rfl <| kc 6 rfl <| kn) rfl ?_
 refine T_seq (T_reg ?_)
 refine R_q _ rfl (v_loadA_r (ov rfl) tA24 rfl rfl) ?_
 obtain ⟨y, h_y, h⟩ := bnd h
 refine R_q _ rfl (v_call (ok_ref5_Check h_y) (.cons (ov rfl) (.aggB rfl) <| .nil)) ?_
 refine R_q _ rfl (v_assign (ov rfl)) ?_
 refine R_nil ?_
 refine T_keep (kc 1 rfl <| kc 2 rfl <| kc 3 rfl <| kc 6 rfl <| kc 9 rfl <| kn) rfl ?_
 refine T_seq (T_reg ?_)
 refine R_q _ rfl (v_move (ov rfl)) ?_
 refine R_q _ rfl (v_neq (ov rfl) (ov rfl)) ?_
 refine R_nil ?_
 refine T_keep (kc 1 rfl <| kc 2 rfl <| kc 3 rfl <| kc 6 rfl <| kc 9 rfl <| kc 15 rfl <| kn) rfl ?_
 refine T_if h rfl (fun b15 h => ?_) (fun b15 h => ?_)
 ·
  refine T_keep (kc 6 rfl <| kc 9 rfl <| kn) rfl ?_
  refine T_seq (T_reg ?_)
  refine R_q _ rfl (v_build (ys := [_, _, _]) tPL28 tHA28 tZ28 (.nil) rfl) ?_
  refine R_q _ rfl (v_move (ov rfl)) ?_
  refine R_w _ _ rfl (w_store (ov rfl) (ov rfl) (cells_agg tA28 rfl) rfl rfl rfl (Nat.le_of_ble_eq_true rfl) (cell1_all rfl) rfl) ?_
  refine R_q _ rfl (v_assign (ov rfl)) ?_
  refine R_q _ rfl (v_assign (ov rfl)) ?_
  refine R_nil ?_
  obtain rfl := rt (v := ((api_Sample.mk 0 0 0), false, y)) h
  refine T_ret (retq ?_ (.three (.agg rfl rfl rfl rfl tA28 rfl rfl (pwB rfl)) (.tmp rfl (Dat.view (.b rfl))) (.tmp rfl (Dat.view (.b rfl)))))
  rfl
 ·
  refine T_skip ?_
  refine T_seq ?_
  refine T_keep (kc 1 rfl <| kc 2 rfl <| kc 3 rfl <| kc 6 rfl <| kn) rfl ?_
  refine T_seq (T_reg ?_)
  refine R_q _ rfl (v_move (ov rfl)) ?_
  obtain ⟨y2, h_y2, h⟩ := bnd h
  refine R_q _ rfl (v_call (ok_ref5_outside h_y2) (.cons (ov rfl) (.b rfl) <| .cons (ov rfl) (.b rfl) <| .cons (ov rfl) (.b rfl) <| .nil)) ?_
  refine R_q _ rfl (v_move (ov rfl)) ?_
  refine R_q _ rfl (.guarded (y2 == false) rfl rfl rfl rfl fun h => v_move (ov rfl)) ?_
  obtain ⟨y3, h_y3, h⟩ := bnd h
  refine R_q _ rfl (.guarded (y2 == false) rfl rfl rfl rfl fun h => v_call (ok_ref5_outside (gdT h_y3 h)) (.cons (ow rfl h) (.b rfl) <| .cons (ov rfl) (.b rfl) <| .cons (ov rfl) (.b rfl) <| .nil)) ?_
  refine R_q _ rfl (v_or (ov rfl) (fun hp => ow rfl (gF hp))) ?_
  refine R_nil ?_
  refine T_keep (kc 1 rfl <| kc 2 rfl <| kc 3 rfl <| kc 6 rfl <| kc 23 rfl <| kn) rfl ?_
  refine T_if h rfl (fun b23 h => ?_) (fun b23 h => ?_)
  ·
   refine T_keep (kc 6 rfl <| kn) rfl ?_
   refine T_seq (T_reg ?_)
   refine R_q _ rfl (v_build (ys := [_, _, _]) tPL28 tHA28 tZ28 (.nil) rfl) ?_
   refine R_w _ _ rfl (w_store (ov rfl) (ov rfl) (cells_agg tA28 rfl) rfl rfl rfl (Nat.le_of_ble_eq_true rfl) (cell1_all rfl) rfl) ?_
   refine R_q _ rfl (v_assign (ov rfl)) ?_
   refine R_q _ rfl (v_assign (ov rfl)) ?_
   refine R_nil ?_
   obtain rfl := rt (v := ((api_Sample.mk 0 0 0), false, 9)) h
   refine T_ret (retq ?_ (.three (.agg rfl rfl rfl rfl tA28 rfl rfl (pwB rfl)) (.tmp rfl (Dat.view (.b rfl))) (.tmp rfl (Dat.view (.b rfl)))))
   rfl
  ·
   refine T_skip ?_
   refine T_keep (kc 1 rfl <| kc 2 rfl <| kc 3 rfl <| kc 6 rfl <| kn) rfl ?_
   refine T_seq (T_reg ?_)
   refine R_q _ rfl (v_loadA_r (ov rfl) tA24 rfl rfl) ?_
   refine R_q _ rfl (v_move (ov rfl)) ?_
   refine R_q _ rfl (v_move (ov rfl)) ?_
   obtain ⟨y4, h_y4, h⟩ := bnd h
   refine R_q _ rfl (v_call (ok_ref5_Held h_y4) (.cons (ov rfl) (.aggB rfl) <| .cons (ov rfl) (.b rfl) <| .cons (ov rfl) (.b rfl) <| .nil)) ?_
   refine R_q _ rfl (v_move (ov rfl)) ?_
   refine R_q _ rfl (v_extract (ov rfl) rfl) ?_
   refine R_q _ rfl (v_extract (ov rfl) rfl) ?_
   refine R_w _ _ rfl (w_alloc (row := [_, _, _]) 1 rfl tZ28 rfl tZ_28) ?_
   refine R_w _ _ rfl (w_store (ov rfl) (ov rfl) (cells_agg tA28 rfl) rfl rfl rfl (Nat.le_of_ble_eq_true rfl) (cell1_all rfl) rfl) ?_
   refine R_q _ rfl (v_assign (ov rfl)) ?_
   refine R_nil ?_
   refine T_keep (kc 6 rfl <| kc 10 rfl <| kc 11 rfl <| kn) rfl ?_
   refine T_seq (T_reg ?_)
   refine R_q _ rfl (v_loadA (ov rfl) rfl rfl rfl tA28 rfl rfl) ?_
   refine R_q _ rfl (v_move (ov rfl)) ?_
   refine R_w _ _ rfl (w_store (ov rfl) (ov rfl) (cells_agg tA28 rfl) rfl rfl rfl (Nat.le_of_ble_eq_true rfl) (cell1_all rfl) rfl) ?_
   refine R_q _ rfl (v_assign (ov rfl)) ?_
   refine R_q _ rfl (v_assign (ov rfl)) ?_
   refine R_nil ?_
   obtain rfl := rt (v := (y4.1, y4.2, 0)) h
   refine T_ret (retq ?_ (.three (.agg rfl rfl rfl rfl tA28 rfl rfl (pwB rfl)) (.tmp rfl (Dat.view (.b rfl))) (.tmp rfl (Dat.view (.b rfl)))))
   rfl

theorem ok_ref8_valueAt {t : api_Track} {frame : Int} {r : api_Sample × Bool} (h : ref8_valueAt t frame = some r) :
  CSpec Tryz.prog gl0 63 [.agg [.str t.Name, .int .i64 t.Series.Den, .sl 28 (List.map R28 t.Series.Samples), .int .i64 t.Long], .int .i64 frame] (.tuple [.agg [.int .i64 r.1.At, .int .i64 r.1.N, .int .i64 r.1.Mark], .bool r.2]) := by
 unfold ref8_valueAt at h
 replace h := bnd0 h
 refine spec_of (by kernel_rfl) Tryz.func63 rfl rfl ?_
 intro w0 A
 refine T_seq (T_reg ?_)
 refine R_q _ rfl (v_boxD (cva (ov rfl)) rfl tZ_26 rfl) ?_
 refine R_w _ _ rfl (w_alloc (row := [_, _, _]) 0 rfl tZ28 rfl tZ_28) ?_
 refine R_q _ rfl (v_assign (ov rfl)) ?_
 refine R_nil ?_
 refine T_keep (kc 1 rfl <| kc 2 rfl <| kc 4 rfl <| kn) rfl ?_
 refine T_seq (T_reg ?_)
 refine R_q _ rfl (v_fieldR (ov rfl) tF26_1) ?_
 refine R_q _ rfl (v_loadA_r (ov rfl) tA24 rfl rfl) ?_
 refine R_q _ rfl (v_move (ov rfl)) ?_
 refine R_q _ rfl (v_mul (ov rfl) (ov rfl) rfl) ?_
 refine R_q _ rfl (v_add (ov rfl) (ov rfl) rfl) ?_
 refine R_q _ rfl (v_fieldR (ov rfl) tF26_2) ?_
 refine R_q _ rfl (v_loadS_r (ov rfl) tS3 rfl) ?_
 obtain ⟨y, h_y, h⟩ := bnd h
 refine R_q _ rfl (v_call (ok_ref5_Hold h_y) (.cons (ov rfl) (.aggB rfl) <| .cons (ov rfl) (.b rfl) <| .cons (ov rfl) (.b rfl) <| .nil)) ?_
 refine R_q _ rfl (v_move (ov rfl)) ?_
 refine R_q _ rfl (v_extract (ov rfl) rfl) ?_
 refine R_q _ rfl (v_extract (ov rfl) rfl) ?_
 refine R_q _ rfl (v_extract (ov rfl) rfl) ?_
 refine R_w _ _ rfl (w_alloc (row := [_, _, _]) 1 rfl tZ28 rfl tZ_28) ?_
 refine R_w _ _ rfl (w_store (ov rfl) (ov rfl) (cells_agg tA28 rfl) rfl rfl rfl (Nat.le_of_ble_eq_true rfl) (cell1_all rfl) rfl) ?_
 refine R_q _ rfl (v_assign (ov rfl)) ?_
 refine R_q _ rfl (v_assign (ov rfl)) ?_
 refine R_nil ?_
 refine T_keep (kc 4 rfl <| kc 6 rfl <| kc 7 rfl <| kn) rfl ?_
 refine T_seq (T_reg ?_)
 refine R_q _ rfl (v_loadA (ov rfl) rfl rfl rfl tA28 rfl rfl) ?_
 refine R_q _ rfl (v_move (ov rfl)) ?_
 refine R_w _ _ rfl (w_store (ov rfl) (ov rfl) (cells_agg tA28 rfl) rfl rfl rfl (Nat.le_of_ble_eq_true rfl) (cell1_all rfl) rfl) ?_
 refine R_q _ rfl (v_assign (ov rfl)) ?_
 refine R_nil ?_
 obtain rfl := rt (v := (y.1, y.2.1)) h
 refine T_ret (retq ?_ (.two (.agg rfl rfl rfl rfl tA28 rfl rfl (pwB rfl)) (.tmp rfl (Dat.view (.b rfl)))))
 rfl

theorem ok_ref8_holds {op : Int} {a : Int} {b : Int} {r : Bool} (h : ref8_holds op a b = some r) :
  CSpec Tryz.prog gl0 68 [.int .i64 op, .int .i64 a, .int .i64 b] (.bool r) := by
 unfold ref8_holds at h
 replace h := bnd0 h
 refine spec_of (by kernel_rfl) Tryz.func68 rfl rfl ?_
 intro w0 A
 refine T_seq (T_reg ?_)
 refine R_q _ rfl (v_assign (ov rfl)) ?_
 refine R_nil ?_
 refine T_seq ?_
 refine T_keep (kc 0 rfl <| kc 1 rfl <| kc 2 rfl <| kn) rfl ?_
 refine T_seq (T_reg ?_)
 refine R_q _ rfl (v_move (ov rfl)) ?_
 refine R_nil ?_
 refine T_block ?_
 refine T_keep (kc 1 rfl <| kc 2 rfl <| kc 7 rfl <| kn) rfl ?_
 refine T_seq (T_reg ?_)
 refine R_q _ rfl (v_eql (ov rfl) (ov rfl)) ?_
 refine R_q _ rfl (v_assign (ov rfl)) ?_
 refine R_nil ?_
 refine T_keep (kc 1 rfl <| kc 2 rfl <| kc 7 rfl <| kc 8 rfl <| kn) rfl ?_
 refine T_if h rfl (fun b8 h => ?_) (fun b8 h => ?_)
 ·
  refine T_keep (kc 1 rfl <| kc 2 rfl <| kn) rfl ?_
  refine T_seq (T_reg ?_)
  refine R_q _ rfl (v_move (ov rfl)) ?_
  refine R_q _ rfl (v_move (ov rfl)) ?_
  refine R_q _ rfl (v_lss (ov rfl) (ov rfl)) ?_
  refine R_q _ rfl (v_assign (ov rfl)) ?_
  refine R_nil ?_
  obtain rfl := rt (v := (decide (a < b))) h
  refine T_ret (retq ?_ (.one (.tmp rfl (Dat.view (.b rfl)))))
  rfl
 ·
  refine T_keep (kc 1 rfl <| kc 2 rfl <| kc 7 rfl <| kn) rfl ?_
  refine T_seq (T_reg ?_)
  refine R_q _ rfl (v_eql (ov rfl) (ov rfl)) ?_
  refine R_q _ rfl (v_assign (ov rfl)) ?_
  refine R_nil ?_
  refine T_keep (kc 1 rfl <| kc 2 rfl <| kc 7 rfl <| kc 13 rfl <| kn) rfl ?_
  refine T_if h rfl (fun b13 h => ?_) (fun b13 h => ?_)
  ·
   refine T_keep (kc 1 rfl <| kc 2 rfl <| kn) rfl ?_
   refine T_seq (T_reg ?_)
   refine R_q _ rfl (v_move (ov rfl)) ?_
   refine R_q _ rfl (v_move (ov rfl)) ?_
   refine R_q _ rfl (v_leq (ov rfl) (ov rfl)) ?_
   refine R_q _ rfl (v_assign (ov rfl)) ?_
   refine R_nil ?_
   obtain rfl := rt (v := (decide (a ≤ b))) h
   refine T_ret (retq ?_ (.one (.tmp rfl (Dat.view (.b rfl)))))
   rfl
  ·
   refine T_keep (kc 1 rfl <| kc 2 rfl <| kc 7 rfl <| kn) rfl ?_
   refine T_seq (T_reg ?_)
   refine R_q _ rfl (v_eql (ov rfl) (ov rfl)) ?_
   refine R_q _ rfl (v_assign (ov rfl)) ?_
   refine R_nil ?_
   refine T_keep (kc 1 rfl <| kc 2 rfl <| kc 7 rfl <| kc 18 rfl <| kn) rfl ?_
   refine T_if h rfl (fun b18 h => ?_) (fun b18 h => ?_)
   ·
    refine T_keep (kc 1 rfl <| kc 2 rfl <| kn) rfl ?_
    refine T_seq (T_reg ?_)
    refine R_q _ rfl (v_move (ov rfl)) ?_
    refine R_q _ rfl (v_move (ov rfl)) ?_
    refine R_q _ rfl (v_eql (ov rfl) (ov rfl)) ?_
    refine R_q _ rfl (v_assign (ov rfl)) ?_
    refine R_nil ?_
    obtain rfl := rt (v := (decide (a = b))) h
    refine T_ret (retq ?_ (.one (.tmp rfl (Dat.view (.b rfl)))))
    rfl
   ·
    refine T_keep (kc 1 rfl <| kc 2 rfl <| kc 7 rfl <| kn) rfl ?_
    refine T_seq (T_reg ?_)
    refine R_q _ rfl (v_eql (ov rfl) (ov rfl)) ?_
    refine R_q _ rfl (v_assign (ov rfl)) ?_
    refine R_nil ?_
    refine T_keep (kc 1 rfl <| kc 2 rfl <| kc 7 rfl <| kc 23 rfl <| kn) rfl ?_
    refine T_if h rfl (fun b23 h => ?_) (fun b23 h => ?_)
    ·
     refine T_keep (kc 1 rfl <| kc 2 rfl <| kn) rfl ?_
     refine T_seq (T_reg ?_)
     refine R_q _ rfl (v_move (ov rfl)) ?_
     refine R_q _ rfl (v_move (ov rfl)) ?_
     refine R_q _ rfl (v_neq (ov rfl) (ov rfl)) ?_
     refine R_q _ rfl (v_assign (ov rfl)) ?_
     refine R_nil ?_
     obtain rfl := rt (v := (!decide (a = b))) h
     refine T_ret (retq ?_ (.one (.tmp rfl (Dat.view (.b rfl)))))
     rfl
    ·
     refine T_keep (kc 1 rfl <| kc 2 rfl <| kc 7 rfl <| kn) rfl ?_
     refine T_seq (T_reg ?_)
     refine R_q _ rfl (v_eql (ov rfl) (ov rfl)) ?_
     refine R_q _ rfl (v_assign (ov rfl)) ?_
     refine R_nil ?_
     refine T_keep (kc 1 rfl <| kc 2 rfl <| kc 28 rfl <| kn) rfl ?_
     refine T_if h rfl (fun b28 h => ?_) (fun b28 h => ?_)
     ·
      refine T_keep (kc 1 rfl <| kc 2 rfl <| kn) rfl ?_
      refine T_seq (T_reg ?_)
      refine R_q _ rfl (v_move (ov rfl)) ?_
      refine R_q _ rfl (v_move (ov rfl)) ?_
      refine R_q _ rfl (v_geq (ov rfl) (ov rfl)) ?_
      refine R_q _ rfl (v_assign (ov rfl)) ?_
      refine R_nil ?_
      obtain rfl := rt (v := (decide (b ≤ a))) h
      refine T_ret (retq ?_ (.one (.tmp rfl (Dat.view (.b rfl)))))
      rfl
     ·
      refine T_skip ?_
      refine T_keep (kc 1 rfl <| kc 2 rfl <| kn) rfl ?_
      refine T_seq (T_reg ?_)
      refine R_q _ rfl (v_move (ov rfl)) ?_
      refine R_q _ rfl (v_move (ov rfl)) ?_
      refine R_q _ rfl (v_gtr (ov rfl) (ov rfl)) ?_
      refine R_q _ rfl (v_assign (ov rfl)) ?_
      refine R_nil ?_
      obtain rfl := rt (v := (decide (b < a))) h
      refine T_ret (retq ?_ (.one (.tmp rfl (Dat.view (.b rfl)))))
      rfl
end Go.Proofs.YtafmdjdjabifjaaGreatDoor
