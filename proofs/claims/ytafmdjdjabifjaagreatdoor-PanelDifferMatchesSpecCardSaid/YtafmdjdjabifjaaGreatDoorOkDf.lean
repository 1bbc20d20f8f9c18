/- A text of the proof: a verified executor of the program form, or the contracts of the functions that the law reaches. -/
import Derived.Test.YtafmdjdjabifjaaGreatDoorOkDfb
set_option linter.all false
namespace Go.Proofs.YtafmdjdjabifjaaGreatDoor
open Go Go.Vx
set_option maxRecDepth 10000
set_option maxHeartbeats 1000000
set_option linter.unusedVariables false
theorem ok_ref8_remember {i : api_Instrument} {m : api_Memo} {s : api_Sample} {known : Bool} {r : api_Memo} (h : ref8_remember i m s known = some r) :
  CSpec Tryz.prog gl0 133 [.agg [.int .i64 i.Kind, .str i.Name, .str i.Track, .int .i64 i.Places, .int .i64 i.Low, .int .i64 i.High, .int .i64 i.Steps, .sl 169 (List.map R169 i.Zones), .int .i64 i.Op, .int .i64 i.N, .bool i.Latch, .int .i64 i.Size], .agg [.bool m.Lit, .bool m.Some, .int .i64 m.N, .int .i64 m.Count, .sl 3 (List.map R3 m.Tape)], .agg [.int .i64 s.At, .int .i64 s.N, .int .i64 s.Mark], .bool known] (.agg [.bool r.Lit, .bool r.Some, .int .i64 r.N, .int .i64 r.Count, .sl 3 (List.map R3 r.Tape)]) := by
 unfold ref8_remember at h
 replace h := bnd0 h
 refine spec_of (by kernel_rfl) Tryz.func133 rfl rfl ?_
 intro w0 A
 refine T_seq (T_reg ?_)
 refine R_q _ rfl (v_boxD (cva (ov rfl)) rfl tZ_55 rfl) ?_
 refine R_w _ _ rfl (w_box 0 rfl (ov rfl) tA129 rfl) ?_
 refine R_q _ rfl (v_boxD (cva (ov rfl)) rfl tZ_28 rfl) ?_
 refine R_w _ _ rfl (w_alloc (row := [_, _, _, _, _]) 1 rfl tZ129 rfl tZ_129) ?_
 refine R_nil ?_
 refine T_keep (kc 3 rfl <| kc 4 rfl <| kc 5 rfl <| kc 6 rfl <| kc 8 rfl <| kn) rfl ?_
 refine T_seq (T_reg ?_)
 refine R_w _ _ rfl (w_litG (r := 2) (xs := ([] : List Int)) (f := R3) rfl tL127 (.nil) rfl rfl rfl) ?_
 refine R_q _ rfl (v_fieldP (ov rfl) rfl rfl tF129_4) ?_
 refine R_q _ rfl (v_loadS (ov rfl) rfl rfl rfl tS127 rfl) ?_
 obtain ⟨l, h_l, h⟩ := bnd h
 refine R_w _ _ rfl (w_appendZ (ov rfl) (slv_sl (ov rfl) tZ_3) tL127 rfl rfl (fun _ => cell1_all rfl) rfl h_l) ?_
 refine R_q _ rfl (v_fieldP (ov rfl) rfl rfl tF129_4) ?_
 refine R_w _ _ rfl (w_store (ov rfl) (ov rfl) (cells_scal tS127) rfl rfl rfl (Nat.le_of_ble_eq_true rfl) (cell1_all rfl) rfl) ?_
 refine R_nil ?_
 refine T_joinG id (t5 fun Lit Some N Count Tape => ⟨[(5, .ptr 0 1 0 0), (8, .ptr 1 1 0 0)], [some ⟨129, [[.bool Lit, .bool Some, .int .i64 N, .int .i64 Count, .sl 3 (List.map R3 Tape)]]⟩, some ⟨129, [[.bool false, .bool false, .int .i64 0, .int .i64 0, .nils]]⟩]⟩) h (fun h => ?_) (fun j h => ?_)
 ·
  refine T_block ?_
  refine T_keep (kc 3 rfl <| kc 4 rfl <| kc 5 rfl <| kc 6 rfl <| kc 8 rfl <| kn) rfl ?_
  refine T_seq (T_reg ?_)
  refine R_q _ rfl (v_fieldR (ov rfl) tF55_0) ?_
  refine R_q _ rfl (v_loadS_r (ov rfl) tS3 rfl) ?_
  refine R_q _ rfl (v_eql (ov rfl) (ov rfl)) ?_
  refine R_q _ rfl (v_move (ov rfl)) ?_
  refine R_q _ rfl (.guarded ((decide (i.Kind = 3)) == true) rfl rfl rfl rfl fun h => v_move (ov rfl)) ?_
  refine R_q _ rfl (v_and (ov rfl) (fun hp => ow rfl (gT hp))) ?_
  refine R_q _ rfl (v_assign (ov rfl)) ?_
  refine R_nil ?_
  refine T_keep (kc 3 rfl <| kc 4 rfl <| kc 5 rfl <| kc 6 rfl <| kc 8 rfl <| kc 15 rfl <| kn) rfl ?_
  refine T_if h rfl (fun b15 h => ?_) (fun b15 h => ?_)
  ·
   refine T_keep (kc 4 rfl <| kc 5 rfl <| kc 6 rfl <| kc 8 rfl <| kn) rfl ?_
   refine T_reg ?_
   refine R_q _ rfl (v_fieldR (ov rfl) tF55_8) ?_
   refine R_q _ rfl (v_loadS_r (ov rfl) tS3 rfl) ?_
   refine R_q _ rfl (v_fieldR (ov rfl) tF28_1) ?_
   refine R_q _ rfl (v_loadS_r (ov rfl) tS3 rfl) ?_
   refine R_q _ rfl (v_fieldR (ov rfl) tF55_9) ?_
   refine R_q _ rfl (v_loadS_r (ov rfl) tS3 rfl) ?_
   obtain ⟨y, h_y, h⟩ := bnd h
   refine R_q _ rfl (v_call (ok_ref8_holds h_y) (.cons (ov rfl) (.b rfl) <| .cons (ov rfl) (.b rfl) <| .cons (ov rfl) (.b rfl) <| .nil)) ?_
   refine R_q _ rfl (v_move (ov rfl)) ?_
   refine R_q _ rfl (.guarded (y == false) rfl rfl rfl rfl fun h => v_fieldR (ov rfl) tF55_10) ?_
   refine R_q _ rfl (.guarded (y == false) rfl rfl rfl rfl fun h => v_loadS_r (ow rfl h) tS4 rfl) ?_
   refine R_q _ rfl (.guarded (y == false) rfl rfl rfl rfl fun h => v_move (ow rfl h)) ?_
   refine R_q _ rfl (.guarded2 ((y == false) && (i.Latch == true)) rfl rfl rfl rfl fun h => v_fieldP (ov rfl) rfl rfl tF129_0) ?_
   refine R_q _ rfl (.guarded2 ((y == false) && (i.Latch == true)) rfl rfl rfl rfl fun h => v_loadS (ow rfl h) rfl rfl rfl tS4 rfl) ?_
   refine R_q _ rfl (.guarded (y == false) rfl rfl rfl rfl fun h => v_and (ow rfl h) (fun hp => ow rfl (gA h (gT hp)))) ?_
   refine R_q _ rfl (v_or (ov rfl) (fun hp => ow rfl (gF hp))) ?_
   refine R_q _ rfl (v_fieldP (ov rfl) rfl rfl tF129_0) ?_
   refine R_w _ _ rfl (w_store (ov rfl) (ov rfl) (cells_scal tS4) rfl rfl rfl (Nat.le_of_ble_eq_true rfl) (cell1_all rfl) rfl) ?_
   refine R_nil ?_
   exact ⟨((y || (i.Latch && m.Lit)), m.Some, m.N, m.Count, l), h, Ent.sel [some 0, some 1] (sr 5 rfl (.ptr _ _ _ rfl) <| sr 8 rfl (.ptr _ _ _ rfl) <| sn) (.cons rfl (ro1 (by exact tZ_129.symm) (rlc (.dat rfl) <| rlc (.dat rfl) <| rlc (.dat rfl) <| rlc (.dat rfl) <| rlc (frzM rfl rfl rfl D3) <| rln)) <| .cons rfl (ro1 (by exact tZ_129.symm) (rld rfl)) <| .nil) rfl rfl⟩
  ·
   refine T_keep (kc 3 rfl <| kc 4 rfl <| kc 5 rfl <| kc 6 rfl <| kc 8 rfl <| kn) rfl ?_
   refine T_seq (T_reg ?_)
   refine R_q _ rfl (v_fieldR (ov rfl) tF55_0) ?_
   refine R_q _ rfl (v_loadS_r (ov rfl) tS3 rfl) ?_
   refine R_q _ rfl (v_eql (ov rfl) (ov rfl)) ?_
   refine R_q _ rfl (v_assign (ov rfl)) ?_
   refine R_nil ?_
   refine T_keep (kc 3 rfl <| kc 4 rfl <| kc 5 rfl <| kc 6 rfl <| kc 8 rfl <| kc 38 rfl <| kn) rfl ?_
   refine T_if h rfl (fun b38 h => ?_) (fun b38 h => ?_)
   ·
    refine T_keep (kc 4 rfl <| kc 5 rfl <| kc 8 rfl <| kn) rfl ?_
    refine T_reg ?_
    refine R_q _ rfl (v_fieldP (ov rfl) rfl rfl tF129_0) ?_
    refine R_q _ rfl (v_loadS (ov rfl) rfl rfl rfl tS4 rfl) ?_
    refine R_q _ rfl (v_move (ov rfl)) ?_
    refine R_q _ rfl (.guarded (m.Lit == true) rfl rfl rfl rfl fun h => v_fieldR (ov rfl) tF55_10) ?_
    refine R_q _ rfl (.guarded (m.Lit == true) rfl rfl rfl rfl fun h => v_loadS_r (ow rfl h) tS4 rfl) ?_
    refine R_q _ rfl (v_and (ov rfl) (fun hp => ow rfl (gT hp))) ?_
    refine R_q _ rfl (v_fieldP (ov rfl) rfl rfl tF129_0) ?_
    refine R_w _ _ rfl (w_store (ov rfl) (ov rfl) (cells_scal tS4) rfl rfl rfl (Nat.le_of_ble_eq_true rfl) (cell1_all rfl) rfl) ?_
    refine R_nil ?_
    exact ⟨((m.Lit && i.Latch), m.Some, m.N, m.Count, l), h, Ent.sel [some 0, some 1] (sr 5 rfl (.ptr _ _ _ rfl) <| sr 8 rfl (.ptr _ _ _ rfl) <| sn) (.cons rfl (ro1 (by exact tZ_129.symm) (rlc (.dat rfl) <| rlc (.dat rfl) <| rlc (.dat rfl) <| rlc (.dat rfl) <| rlc (frzM rfl rfl rfl D3) <| rln)) <| .cons rfl (ro1 (by exact tZ_129.symm) (rld rfl)) <| .nil) rfl rfl⟩
   ·
    refine T_keep (kc 3 rfl <| kc 4 rfl <| kc 5 rfl <| kc 6 rfl <| kc 8 rfl <| kn) rfl ?_
    refine T_seq (T_reg ?_)
    refine R_q _ rfl (v_fieldR (ov rfl) tF55_0) ?_
    refine R_q _ rfl (v_loadS_r (ov rfl) tS3 rfl) ?_
    refine R_q _ rfl (v_eql (ov rfl) (ov rfl)) ?_
    refine R_q _ rfl (v_move (ov rfl)) ?_
    refine R_q _ rfl (.guarded ((decide (i.Kind = 5)) == true) rfl rfl rfl rfl fun h => v_move (ov rfl)) ?_
    refine R_q _ rfl (v_and (ov rfl) (fun hp => ow rfl (gT hp))) ?_
    refine R_q _ rfl (v_assign (ov rfl)) ?_
    refine R_nil ?_
    refine T_keep (kc 3 rfl <| kc 4 rfl <| kc 5 rfl <| kc 6 rfl <| kc 8 rfl <| kc 49 rfl <| kn) rfl ?_
    refine T_if h rfl (fun b49 h => ?_) (fun b49 h => ?_)
    ·
     refine T_keep (kc 4 rfl <| kc 5 rfl <| kc 6 rfl <| kc 8 rfl <| kn) rfl ?_
     refine T_seq (T_reg ?_)
     refine R_q _ rfl (v_fieldR (ov rfl) tF55_8) ?_
     refine R_q _ rfl (v_loadS_r (ov rfl) tS3 rfl) ?_
     refine R_q _ rfl (v_fieldR (ov rfl) tF28_1) ?_
     refine R_q _ rfl (v_loadS_r (ov rfl) tS3 rfl) ?_
     refine R_q _ rfl (v_fieldR (ov rfl) tF55_9) ?_
     refine R_q _ rfl (v_loadS_r (ov rfl) tS3 rfl) ?_
     obtain ⟨y2, h_y2, h⟩ := bnd h
     refine R_q _ rfl (v_call (ok_ref8_holds h_y2) (.cons (ov rfl) (.b rfl) <| .cons (ov rfl) (.b rfl) <| .cons (ov rfl) (.b rfl) <| .nil)) ?_
     refine R_q _ rfl (v_assign (ov rfl)) ?_
     refine R_nil ?_
     refine T_seq ?_
     refine T_keep (kc 5 rfl <| kc 8 rfl <| kc 9 rfl <| kn) rfl ?_
     refine T_seq (T_reg ?_)
     refine R_q _ rfl (v_move (ov rfl)) ?_
     refine R_q _ rfl (v_move (ov rfl)) ?_
     refine R_q _ rfl (.guarded (y2 == true) rfl rfl rfl rfl fun h => v_fieldP (ov rfl) rfl rfl tF129_0) ?_
     refine R_q _ rfl (.guarded (y2 == true) rfl rfl rfl rfl fun h => v_loadS (ow rfl h) rfl rfl rfl tS4 rfl) ?_
     refine R_q _ rfl (.guarded (y2 == true) rfl rfl rfl rfl fun h => v_not (ow rfl h)) ?_
     refine R_q _ rfl (v_and (ov rfl) (fun hp => ow rfl (gT hp))) ?_
     refine R_nil ?_
     refine T_keep (kc 5 rfl <| kc 8 rfl <| kc 9 rfl <| kc 68 rfl <| kn) rfl ?_
     refine T_if h rfl (fun b68 h => ?_) (fun b68 h => ?_)
     ·
      refine T_keep (kc 5 rfl <| kc 8 rfl <| kc 9 rfl <| kn) rfl ?_
      refine T_reg ?_
      refine R_q _ rfl (v_fieldP (ov rfl) rfl rfl tF129_3) ?_
      refine R_q _ rfl (v_loadS (ov rfl) rfl rfl rfl tS3 rfl) ?_
      refine R_q _ rfl (v_add (ov rfl) (ov rfl) rfl) ?_
      refine R_q _ rfl (v_fieldP (ov rfl) rfl rfl tF129_3) ?_
      refine R_w _ _ rfl (w_store (ov rfl) (ov rfl) (cells_scal tS3) rfl rfl rfl (Nat.le_of_ble_eq_true rfl) (cell1_all rfl) rfl) ?_
      refine R_nil ?_
      refine T_keep (kc 5 rfl <| kc 8 rfl <| kc 9 rfl <| kn) rfl ?_
      refine T_reg ?_
      refine R_q _ rfl (v_move (ov rfl)) ?_
      refine R_q _ rfl (v_fieldP (ov rfl) rfl rfl tF129_0) ?_
      refine R_w _ _ rfl (w_store (ov rfl) (ov rfl) (cells_scal tS4) rfl rfl rfl (Nat.le_of_ble_eq_true rfl) (cell1_all rfl) rfl) ?_
      refine R_nil ?_
      exact ⟨(y2, m.Some, m.N, (i64 (m.Count + 1)), l), h, Ent.sel [some 0, some 1] (sr 5 rfl (.ptr _ _ _ rfl) <| sr 8 rfl (.ptr _ _ _ rfl) <| sn) (.cons rfl (ro1 (by exact tZ_129.symm) (rlc (.dat rfl) <| rlc (.dat rfl) <| rlc (.dat rfl) <| rlc (.dat rfl) <| rlc (frzM rfl rfl rfl D3) <| rln)) <| .cons rfl (ro1 (by exact tZ_129.symm) (rld rfl)) <| .nil) rfl rfl⟩
     ·
      refine T_skip ?_
      refine T_keep (kc 5 rfl <| kc 8 rfl <| kc 9 rfl <| kn) rfl ?_
      refine T_reg ?_
      refine R_q _ rfl (v_move (ov rfl)) ?_
      refine R_q _ rfl (v_fieldP (ov rfl) rfl rfl tF129_0) ?_
      refine R_w _ _ rfl (w_store (ov rfl) (ov rfl) (cells_scal tS4) rfl rfl rfl (Nat.le_of_ble_eq_true rfl) (cell1_all rfl) rfl) ?_
      refine R_nil ?_
      exact ⟨(y2, m.Some, m.N, m.Count, l), h, Ent.sel [some 0, some 1] (sr 5 rfl (.ptr _ _ _ rfl) <| sr 8 rfl (.ptr _ _ _ rfl) <| sn) (.cons rfl (ro1 (by exact tZ_129.symm) (rlc (.dat rfl) <| rlc (.dat rfl) <| rlc (.dat rfl) <| rlc (.dat rfl) <| rlc (frzM rfl rfl rfl D3) <| rln)) <| .cons rfl (ro1 (by exact tZ_129.symm) (rld rfl)) <| .nil) rfl rfl⟩
    ·
     refine T_keep (kc 3 rfl <| kc 4 rfl <| kc 5 rfl <| kc 6 rfl <| kc 8 rfl <| kn) rfl ?_
     refine T_seq (T_reg ?_)
     refine R_q _ rfl (v_fieldR (ov rfl) tF55_0) ?_
     refine R_q _ rfl (v_loadS_r (ov rfl) tS3 rfl) ?_
     refine R_q _ rfl (v_eql (ov rfl) (ov rfl)) ?_
     refine R_q _ rfl (v_assign (ov rfl)) ?_
     refine R_nil ?_
     refine T_keep (kc 3 rfl <| kc 4 rfl <| kc 5 rfl <| kc 6 rfl <| kc 8 rfl <| kc 75 rfl <| kn) rfl ?_
     refine T_if h rfl (fun b75 h => ?_) (fun b75 h => ?_)
     ·
      refine T_keep (kc 5 rfl <| kc 8 rfl <| kn) rfl ?_
      refine T_reg ?_
      refine R_q _ rfl (v_fieldP (ov rfl) rfl rfl tF129_0) ?_
      refine R_w _ _ rfl (w_store (ov rfl) (ov rfl) (cells_scal tS4) rfl rfl rfl (Nat.le_of_ble_eq_true rfl) (cell1_all rfl) rfl) ?_
      refine R_nil ?_
      exact ⟨(false, m.Some, m.N, m.Count, l), h, Ent.sel [some 0, some 1] (sr 5 rfl (.ptr _ _ _ rfl) <| sr 8 rfl (.ptr _ _ _ rfl) <| sn) (.cons rfl (ro1 (by exact tZ_129.symm) (rlc (.dat rfl) <| rlc (.dat rfl) <| rlc (.dat rfl) <| rlc (.dat rfl) <| rlc (frzM rfl rfl rfl D3) <| rln)) <| .cons rfl (ro1 (by exact tZ_129.symm) (rld rfl)) <| .nil) rfl rfl⟩
     ·
      refine T_keep (kc 3 rfl <| kc 4 rfl <| kc 5 rfl <| kc 6 rfl <| kc 8 rfl <| kn) rfl ?_
      refine T_seq (T_reg ?_)
      refine R_q _ rfl (v_fieldR (ov rfl) tF55_0) ?_
      refine R_q _ rfl (v_loadS_r (ov rfl) tS3 rfl) ?_
      refine R_q _ rfl (v_eql (ov rfl) (ov rfl)) ?_
      refine R_q _ rfl (v_move (ov rfl)) ?_
      refine R_q _ rfl (.guarded ((decide (i.Kind = 4)) == true) rfl rfl rfl rfl fun h => v_move (ov rfl)) ?_
      refine R_q _ rfl (v_and (ov rfl) (fun hp => ow rfl (gT hp))) ?_
      refine R_q _ rfl (v_assign (ov rfl)) ?_
      refine R_nil ?_
      refine T_keep (kc 3 rfl <| kc 4 rfl <| kc 5 rfl <| kc 6 rfl <| kc 8 rfl <| kc 80 rfl <| kn) rfl ?_
      refine T_if h rfl (fun b80 h => ?_) (fun b80 h => ?_)
      ·
       refine T_seq ?_
       refine T_keep (kc 5 rfl <| kc 6 rfl <| kc 8 rfl <| kn) rfl ?_
       refine T_seq (T_reg ?_)
       refine R_q _ rfl (v_fieldP (ov rfl) rfl rfl tF129_1) ?_
       refine R_q _ rfl (v_loadS (ov rfl) rfl rfl rfl tS4 rfl) ?_
       refine R_q _ rfl (v_not (ov rfl)) ?_
       refine R_q _ rfl (v_move (ov rfl)) ?_
       refine R_q _ rfl (.guarded ((!m.Some) == false) rfl rfl rfl rfl fun h => v_fieldR (ov rfl) tF28_1) ?_
       refine R_q _ rfl (.guarded ((!m.Some) == false) rfl rfl rfl rfl fun h => v_loadS_r (ow rfl h) tS3 rfl) ?_
       refine R_q _ rfl (.guarded ((!m.Some) == false) rfl rfl rfl rfl fun h => v_fieldP (ov rfl) rfl rfl tF129_2) ?_
       refine R_q _ rfl (.guarded ((!m.Some) == false) rfl rfl rfl rfl fun h => v_loadS (ow rfl h) rfl rfl rfl tS3 rfl) ?_
       refine R_q _ rfl (.guarded ((!m.Some) == false) rfl rfl rfl rfl fun h => v_gtr (ow rfl h) (ow rfl h)) ?_
       refine R_q _ rfl (v_or (ov rfl) (fun hp => ow rfl (gF hp))) ?_
       refine R_nil ?_
       refine T_keep (kc 5 rfl <| kc 6 rfl <| kc 8 rfl <| kc 96 rfl <| kn) rfl ?_
       refine T_if h rfl (fun b96 h => ?_) (fun b96 h => ?_)
       ·
        refine T_keep (kc 5 rfl <| kc 6 rfl <| kc 8 rfl <| kn) rfl ?_
        refine T_reg ?_
        refine R_q _ rfl (v_fieldR (ov rfl) tF28_1) ?_
        refine R_q _ rfl (v_loadS_r (ov rfl) tS3 rfl) ?_
        refine R_q _ rfl (v_fieldP (ov rfl) rfl rfl tF129_2) ?_
        refine R_w _ _ rfl (w_store (ov rfl) (ov rfl) (cells_scal tS3) rfl rfl rfl (Nat.le_of_ble_eq_true rfl) (cell1_all rfl) rfl) ?_
        refine R_nil ?_
        refine T_keep (kc 5 rfl <| kc 8 rfl <| kn) rfl ?_
        refine T_reg ?_
        refine R_q _ rfl (v_fieldP (ov rfl) rfl rfl tF129_1) ?_
        refine R_w _ _ rfl (w_store (ov rfl) (ov rfl) (cells_scal tS4) rfl rfl rfl (Nat.le_of_ble_eq_true rfl) (cell1_all rfl) rfl) ?_
        refine R_nil ?_
        exact ⟨(m.Lit, true, s.N, m.Count, l), h, Ent.sel [some 0, some 1] (sr 5 rfl (.ptr _ _ _ rfl) <| sr 8 rfl (.ptr _ _ _ rfl) <| sn) (.cons rfl (ro1 (by exact tZ_129.symm) (rlc (.dat rfl) <| rlc (.dat rfl) <| rlc (.dat rfl) <| rlc (.dat rfl) <| rlc (frzM rfl rfl rfl D3) <| rln)) <| .cons rfl (ro1 (by exact tZ_129.symm) (rld rfl)) <| .nil) rfl rfl⟩
       ·
        refine T_skip ?_
        refine T_keep (kc 5 rfl <| kc 8 rfl <| kn) rfl ?_
        refine T_reg ?_
        refine R_q _ rfl (v_fieldP (ov rfl) rfl rfl tF129_1) ?_
        refine R_w _ _ rfl (w_store (ov rfl) (ov rfl) (cells_scal tS4) rfl rfl rfl (Nat.le_of_ble_eq_true rfl) (cell1_all rfl) rfl) ?_
        refine R_nil ?_
        exact ⟨(m.Lit, true, m.N, m.Count, l), h, Ent.sel [some 0, some 1] (sr 5 rfl (.ptr _ _ _ rfl) <| sr 8 rfl (.ptr _ _ _ rfl) <| sn) (.cons rfl (ro1 (by exact tZ_129.symm) (rlc (.dat rfl) <| rlc (.dat rfl) <| rlc (.dat rfl) <| rlc (.dat rfl) <| rlc (frzM rfl rfl rfl D3) <| rln)) <| .cons rfl (ro1 (by exact tZ_129.symm) (rld rfl)) <| .nil) rfl rfl⟩
      ·
       refine T_keep (kc 3 rfl <| kc 4 rfl <| kc 5 rfl <| kc 6 rfl <| kc 8 rfl <| kn) rfl ?_
       refine T_seq (T_reg ?_)
       refine R_q _ rfl (v_fieldR (ov rfl) tF55_0) ?_
       refine R_q _ rfl (v_loadS_r (ov rfl) tS3 rfl) ?_
       refine R_q _ rfl (v_eql (ov rfl) (ov rfl)) ?_
       refine R_q _ rfl (v_move (ov rfl)) ?_
       refine R_q _ rfl (.guarded ((decide (i.Kind = 6)) == true) rfl rfl rfl rfl fun h => v_move (ov rfl)) ?_
       refine R_q _ rfl (v_and (ov rfl) (fun hp => ow rfl (gT hp))) ?_
       refine R_q _ rfl (v_assign (ov rfl)) ?_
       refine R_nil ?_
       refine T_keep (kc 4 rfl <| kc 5 rfl <| kc 6 rfl <| kc 8 rfl <| kc 101 rfl <| kn) rfl ?_
       refine T_if h rfl (fun b101 h => ?_) (fun b101 h => ?_)
       ·
        refine T_keep (kc 4 rfl <| kc 5 rfl <| kc 6 rfl <| kc 8 rfl <| kn) rfl ?_
        refine T_seq (T_reg ?_)
        refine R_q _ rfl (v_fieldP (ov rfl) rfl rfl tF129_4) ?_
        refine R_q _ rfl (v_loadS (ov rfl) rfl rfl rfl tS127 rfl) ?_
        refine R_q _ rfl (v_fieldR (ov rfl) tF28_1) ?_
        refine R_q _ rfl (v_loadS_r (ov rfl) tS3 rfl) ?_
        refine R_q (.sl 3 (List.map R3 ([s.N] : List Int))) rfl (v_lit tL127 (.cons (cvs (ov rfl) (cell1_b rfl)) rfl (.cons (.b rfl) .nil) <| .nil) rfl rfl) ?_
        obtain ⟨l2, h_l2, h⟩ := bnd h
        refine R_w _ _ rfl (w_appendG (ov rfl) (slv_sl (ov rfl) tZ_3) tL127 rfl rfl rfl (fun _ => cell1_all rfl) rfl h_l2) ?_
        refine R_q _ rfl (v_fieldP (ov rfl) rfl rfl tF129_4) ?_
        refine R_w _ _ rfl (w_store (ov rfl) (ov rfl) (cells_scal tS127) rfl rfl rfl (Nat.le_of_ble_eq_true rfl) (cell1_all rfl) rfl) ?_
        refine R_nil ?_
        refine T_keep (kc 4 rfl <| kc 5 rfl <| kc 8 rfl <| kn) rfl ?_
        refine T_seq (T_reg ?_)
        refine R_q _ rfl (v_fieldP (ov rfl) rfl rfl tF129_4) ?_
        refine R_q _ rfl (v_loadS (ov rfl) rfl rfl rfl tS127 rfl) ?_
        refine R_q _ rfl (v_lenO (ov rfl) rfl rfl tL127) ?_
        refine R_q _ rfl (v_fieldR (ov rfl) tF55_11) ?_
        refine R_q _ rfl (v_loadS_r (ov rfl) tS3 rfl) ?_
        refine R_q _ rfl (v_gtr (ov rfl) (ov rfl)) ?_
        refine R_nil ?_
        refine T_keep (kc 5 rfl <| kc 8 rfl <| kc 120 rfl <| kn) rfl ?_
        refine T_if h rfl (fun b120 h => ?_) (fun b120 h => ?_)
        ·
         refine T_keep (kc 5 rfl <| kc 8 rfl <| kn) rfl ?_
         refine T_reg ?_
         refine R_q _ rfl (v_fieldP (ov rfl) rfl rfl tF129_4) ?_
         refine R_q _ rfl (v_loadS (ov rfl) rfl rfl rfl tS127 rfl) ?_
         obtain ⟨l3, h_l3, h⟩ := bnd h
         refine R_ent (Ent.sel [some 0, some 1, none] (sr 5 rfl (.ptr (r' := 0) _ _ _ rfl) <| sr 8 rfl (.ptr (r' := 1) _ _ _ rfl) <| sr 121 rfl (.ptr (r' := 0) _ _ _ rfl) <| sr 122 rfl (frzM rfl rfl rfl D3) <| sn) (.cons rfl (ro1 (by exact tZ_129.symm) (rlc (.dat rfl) <| rlc (.dat rfl) <| rlc (.dat rfl) <| rlc (.dat rfl) <| rlc (frzM rfl rfl rfl D3) <| rln)) <| .cons rfl (ro1 (by exact tZ_129.symm) (rlc (.dat rfl) <| rlc (.dat rfl) <| rlc (.dat rfl) <| rlc (.dat rfl) <| rlc (.dat rfl) <| rln)) <| .row 3 <| .nil) rfl rfl) ?_
         refine R_q _ rfl (v_sliceG (ov rfl) tL127 (oi (ov rfl)) on h_l3) ?_
         refine R_q _ rfl (v_fieldP (ov rfl) rfl rfl tF129_4) ?_
         refine R_w _ _ rfl (w_store (ov rfl) (ov rfl) (cells_scal tS127) rfl rfl rfl (Nat.le_of_ble_eq_true rfl) (cell1_all rfl) rfl) ?_
         refine R_nil ?_
         exact ⟨(m.Lit, m.Some, m.N, m.Count, l3), h, Ent.sel [some 0, some 1] (sr 5 rfl (.ptr _ _ _ rfl) <| sr 8 rfl (.ptr _ _ _ rfl) <| sn) (.cons rfl (ro1 (by exact tZ_129.symm) (rld rfl)) <| .cons rfl (ro1 (by exact tZ_129.symm) (rld rfl)) <| .nil) rfl rfl⟩
        ·
         refine T_skip ?_
         exact ⟨(m.Lit, m.Some, m.N, m.Count, l2), h, Ent.sel [some 0, some 1] (sr 5 rfl (.ptr _ _ _ rfl) <| sr 8 rfl (.ptr _ _ _ rfl) <| sn) (.cons rfl (ro1 (by exact tZ_129.symm) (rlc (.dat rfl) <| rlc (.dat rfl) <| rlc (.dat rfl) <| rlc (.dat rfl) <| rlc (frzM rfl rfl rfl D3) <| rln)) <| .cons rfl (ro1 (by exact tZ_129.symm) (rld rfl)) <| .nil) rfl rfl⟩
       ·
        refine T_skip ?_
        exact ⟨(m.Lit, m.Some, m.N, m.Count, l), h, Ent.sel [some 0, some 1] (sr 5 rfl (.ptr _ _ _ rfl) <| sr 8 rfl (.ptr _ _ _ rfl) <| sn) (.cons rfl (ro1 (by exact tZ_129.symm) (rlc (.dat rfl) <| rlc (.dat rfl) <| rlc (.dat rfl) <| rlc (.dat rfl) <| rlc (frzM rfl rfl rfl D3) <| rln)) <| .cons rfl (ro1 (by exact tZ_129.symm) (rld rfl)) <| .nil) rfl rfl⟩
 ·
  obtain ⟨Lit, Some, N, Count, Tape⟩ := j
  replace h := t5i h
  refine t5T ?_
  refine T_seq (T_reg ?_)
  refine R_q _ rfl (v_loadA (ov rfl) rfl rfl rfl tA129 rfl rfl) ?_
  refine R_w _ _ rfl (w_store (ov rfl) (ov rfl) (cells_agg tA129 rfl) rfl rfl rfl (Nat.le_of_ble_eq_true rfl) (cell1_all rfl) rfl) ?_
  refine R_nil ?_
  obtain rfl := rt (v := (api_Memo.mk Lit Some N Count Tape)) h
  refine T_ret (retq ?_ (.one (.agg rfl rfl rfl rfl tA129 rfl rfl (pwB rfl))))
  rfl

theorem ok_ref8_advance {p : api_Panel} {l : List api_Track} {s : api_PanelState} {r : api_PanelState} (h : ref8_advance p l s = some r) :
  CSpec Tryz.prog gl0 74 [.agg [.sl 55 (List.map R55 p.Instruments)], .sl 26 (List.map R26 l), .agg [.int .i64 s.Frame, .sl 129 (List.map R129 s.Memos)]] (.agg [.int .i64 r.Frame, .sl 129 (List.map R129 r.Memos)]) := by
 unfold ref8_advance at h
 replace h := bnd0 h
 refine spec_of (by kernel_rfl) Tryz.func74 rfl rfl ?_
 intro w0 A
 refine T_seq (T_reg ?_)
 refine R_q _ rfl (v_boxD (cva (ov rfl)) rfl tZ_41 rfl) ?_
 refine R_q _ rfl (v_boxD (cva (ov rfl)) rfl tZ_65 rfl) ?_
 refine R_w _ _ rfl (w_alloc (row := [_, _]) 0 rfl tZ65 rfl tZ_65) ?_
 refine R_nil ?_
 refine T_keep (kc 1 rfl <| kc 3 rfl <| kc 5 rfl <| kc 6 rfl <| kn) rfl ?_
 refine T_seq (T_reg ?_)
 refine R_q _ rfl (v_fieldR (ov rfl) tF65_0) ?_
 refine R_q _ rfl (v_loadS_r (ov rfl) tS3 rfl) ?_
 refine R_q _ rfl (v_add (ov rfl) (ov rfl) rfl) ?_
 refine R_q _ rfl (v_build (ys := [_, _]) tPL65 tHA65 tZ65 (.cons (cvs (ov rfl) (cell1_b rfl)) <| .nil) rfl) ?_
 refine R_w _ _ rfl (w_alloc (row := [_, _]) 1 rfl tZ65 rfl tZ_65) ?_
 refine R_w _ _ rfl (w_store (ov rfl) (ov rfl) (cells_agg tA65 rfl) rfl rfl rfl (Nat.le_of_ble_eq_true rfl) (cell1_all rfl) rfl) ?_
 refine R_nil ?_
 refine T_joinG id (t1 fun Memos => ⟨[(6, .ptr 0 1 0 0), (7, .ptr 1 1 0 0)], [some ⟨65, [[.int .i64 0, .nils]]⟩, some ⟨65, [[.int .i64 (i64 (s.Frame + 1)), .own 2 Memos.length]]⟩, some ⟨129, List.map R129 Memos⟩]⟩) h (fun h => ?_) (fun j h => ?_)
 ·
  refine T_keep (kc 1 rfl <| kc 3 rfl <| kc 5 rfl <| kc 6 rfl <| kc 7 rfl <| kn) rfl ?_
  refine T_seq (T_reg ?_)
  refine R_q _ rfl (v_fieldR (ov rfl) tF41_0) ?_
  refine R_q _ rfl (v_loadS_r (ov rfl) tS39 rfl) ?_
  refine R_q _ rfl (v_len (slv_sl (ov rfl) tZ_55) tL39 (len_map _ _)) ?_
  refine R_q _ rfl (v_move (ov rfl)) ?_
  refine R_nil ?_
  refine T_block ?_
  obtain ⟨r1, hl1, ho1⟩ := bndL h
  refine T_loopG _ (t2 fun Memos2 i => ⟨[(1, .sl 26 (List.map R26 l)), (5, .rp [.int .i64 s.Frame, .sl 129 (List.map R129 s.Memos)] 0), (6, .ptr 0 1 0 0), (7, .ptr 1 1 0 0), (19, .sl 55 (List.map R55 p.Instruments)), (20, .int .i64 (p.Instruments.length : Int)), (21, .int .i64 i)], [some ⟨65, [[.int .i64 0, .nils]]⟩, some ⟨65, [[.int .i64 (i64 (s.Frame + 1)), .own 2 Memos2.length]]⟩, some ⟨129, List.map R129 Memos2⟩]⟩) _ hl1 (Ent.sel [some 0, some 1, none] (sd 1 rfl rfl <| sd 5 rfl rfl <| sr 6 rfl (.ptr _ _ _ rfl) <| sr 7 rfl (.ptr _ _ _ rfl) <| sd 19 rfl rfl <| sd 20 rfl rfl <| sd 21 rfl rfl <| sn) (.cons rfl (ro1 (by exact tZ_65.symm) (rld rfl)) <| .cons rfl (ro1 (by exact tZ_65.symm) (rlc (.dat rfl) <| rlc (.row rfl) <| rln)) <| .row 129 <| .nil) rfl rfl) (fun n1 s1 h => ?_)
  obtain ⟨Memos2, i⟩ := s1
  replace h := t2i h
  refine t2T ?_
  unfold ref8_advance_L1 at h
  refine T_seq (T_reg ?_)
  refine R_q _ rfl (v_lss (ov rfl) (ov rfl)) ?_
  refine R_nil ?_
  refine T_seq ?_
  refine T_if h rfl (fun b22 h => ?_) (fun b22 h => ?_)
  ·
   refine T_skip ?_
   refine T_seq ?_
   refine T_block ?_
   refine T_keep (kc 1 rfl <| kc 5 rfl <| kc 6 rfl <| kc 7 rfl <| kc 19 rfl <| kc 20 rfl <| kc 21 rfl <| kn) rfl ?_
   refine T_seq (T_reg ?_)
   refine R_q _ rfl (v_move (ov rfl)) ?_
   obtain ⟨x, h_x, h⟩ := bnd h
   refine R_q _ rfl (v_ixSG (ov rfl) (ov rfl) tL39 h_x) ?_
   refine R_q _ rfl (v_loadA_r (ov rfl) tA55 rfl rfl) ?_
   refine R_w _ _ rfl (w_alloc (row := [_, _, _, _, _, _, _, _, _, _, _, _]) 3 rfl tZ55 rfl tZ_55) ?_
   refine R_q _ rfl (v_assign (ov rfl)) ?_
   refine R_w _ _ rfl (w_store (ov rfl) (ov rfl) (cells_agg tA55 rfl) rfl rfl rfl (Nat.le_of_ble_eq_true rfl) (cell1_all rfl) rfl) ?_
   refine R_nil ?_
   refine T_keep (kc 1 rfl <| kc 5 rfl <| kc 6 rfl <| kc 7 rfl <| kc 8 rfl <| kc 9 rfl <| kc 19 rfl <| kc 20 rfl <| kc 21 rfl <| kn) rfl ?_
   refine T_seq (T_reg ?_)
   refine R_q _ rfl (v_move (ov rfl)) ?_
   refine R_q _ rfl (v_fieldP (ov rfl) rfl rfl tF55_2) ?_
   refine R_q _ rfl (v_loadS (ov rfl) rfl rfl rfl tS9 rfl) ?_
   obtain ⟨y, h_y, h⟩ := bnd h
   refine R_q _ rfl (v_call (ok_ref8_track h_y) (.cons (ov rfl) (.b rfl) <| .cons (ov rfl) (.b rfl) <| .nil)) ?_
   refine R_q _ rfl (v_move (ov rfl)) ?_
   refine R_q _ rfl (v_extract (ov rfl) rfl) ?_
   refine R_q _ rfl (v_extract (ov rfl) rfl) ?_
   refine R_w _ _ rfl (w_alloc (row := [_, _, _, _]) 4 rfl tZ26 rfl tZ_26) ?_
   refine R_w _ _ rfl (w_store (ov rfl) (ov rfl) (cells_agg tA26 rfl) rfl rfl rfl (Nat.le_of_ble_eq_true rfl) (cell1_all rfl) rfl) ?_
   refine R_q _ rfl (v_assign (ov rfl)) ?_
   refine R_nil ?_
   refine T_keep (kc 1 rfl <| kc 5 rfl <| kc 6 rfl <| kc 7 rfl <| kc 8 rfl <| kc 9 rfl <| kc 10 rfl <| kc 19 rfl <| kc 20 rfl <| kc 21 rfl <| kn) rfl ?_
   refine T_seq (T_reg ?_)
   refine R_q _ rfl (v_loadA (ov rfl) rfl rfl rfl tA26 rfl rfl) ?_
   refine R_q _ rfl (v_fieldP (ov rfl) rfl rfl tF65_0) ?_
   refine R_q _ rfl (v_loadS (ov rfl) rfl rfl rfl tS3 rfl) ?_
   obtain ⟨y2, h_y2, h⟩ := bnd h
   refine R_q _ rfl (v_call (ok_ref8_valueAt h_y2) (.cons (ov rfl) (.aggB rfl) <| .cons (ov rfl) (.b rfl) <| .nil)) ?_
   refine R_q _ rfl (v_move (ov rfl)) ?_
   refine R_q _ rfl (v_extract (ov rfl) rfl) ?_
   refine R_q _ rfl (v_extract (ov rfl) rfl) ?_
   refine R_w _ _ rfl (w_alloc (row := [_, _, _]) 5 rfl tZ28 rfl tZ_28) ?_
   refine R_w _ _ rfl (w_store (ov rfl) (ov rfl) (cells_agg tA28 rfl) rfl rfl rfl (Nat.le_of_ble_eq_true rfl) (cell1_all rfl) rfl) ?_
   refine R_q _ rfl (v_assign (ov rfl)) ?_
   refine R_nil ?_
   refine T_keep (kc 1 rfl <| kc 5 rfl <| kc 6 rfl <| kc 7 rfl <| kc 8 rfl <| kc 9 rfl <| kc 12 rfl <| kc 13 rfl <| kc 19 rfl <| kc 20 rfl <| kc 21 rfl <| kn) rfl ?_
   refine T_draw (cw := md0) (by kernel_rfl) ?_
   refine D_q0 0 _ rfl (by kernel_rfl) rfl rfl (v_fieldP (ov rfl) rfl rfl tF65_1) ?_
   refine D_q0 1 _ rfl (by kernel_rfl) rfl rfl (v_loadS (ov rfl) rfl rfl rfl tS63 rfl) ?_
   refine D_q0 2 _ rfl (by kernel_rfl) rfl rfl (v_loadA (ov rfl) rfl rfl rfl tA55 rfl rfl) ?_
   refine D_q0 3 _ rfl (by kernel_rfl) rfl rfl (v_fieldR (ov rfl) tF65_1) ?_
   refine D_q0 4 _ rfl (by kernel_rfl) rfl rfl (v_loadS_r (ov rfl) tS63 rfl) ?_
   refine D_q0 5 _ rfl (by kernel_rfl) rfl rfl (v_move (ov rfl)) ?_
   obtain ⟨x2, h_x2, h⟩ := bnd h
   refine D_q0 6 _ rfl (by kernel_rfl) rfl rfl (v_ixSG (ov rfl) (ov rfl) tL63 h_x2) ?_
   refine D_q0 7 _ rfl (by kernel_rfl) rfl rfl (v_loadA_r (ov rfl) tA129 rfl rfl) ?_
   refine D_q0 8 _ rfl (by kernel_rfl) rfl rfl (v_loadA (ov rfl) rfl rfl rfl tA28 rfl rfl) ?_
   refine D_q0 9 _ rfl (by kernel_rfl) rfl rfl (v_move (ov rfl)) ?_
   obtain ⟨y3, h_y3, h⟩ := bnd h
   refine D_q0 10 _ rfl (by kernel_rfl) rfl rfl (v_call (ok_ref8_remember h_y3) (.cons (ov rfl) (.aggB rfl) <| .cons (ov rfl) (.aggB rfl) <| .cons (ov rfl) (.aggB rfl) <| .cons (ov rfl) (.b rfl) <| .nil)) ?_
   refine D_q0 11 (.sl 129 (List.map R129 ([y3] : List api_Memo))) rfl (by kernel_rfl) rfl rfl (v_lit tL63 (.cons (cva (ov rfl)) rfl (pwD rfl) <| .nil) rfl rfl) ?_
   obtain ⟨l2, h_l2, h⟩ := bnd h
   refine D_one 12 _ _ rfl (by kernel_rfl) rfl rfl (fun h => by cases h) (fun h => by cases h) (w_appendG (ov rfl) (slv_sl (ov rfl) tZ_129) tL63 rfl rfl rfl (fun _ => cell1_all rfl) rfl h_l2) ?_
   refine D_q0 13 _ rfl (by kernel_rfl) rfl rfl (v_fieldP (ov rfl) rfl rfl tF65_1) ?_
   refine D_one 14 _ _ rfl (by kernel_rfl) rfl rfl (fun h => by cases h) (fun h => by cases h) (w_store (ov rfl) (ov rfl) (cells_scal tS63) rfl rfl rfl (Nat.le_of_ble_eq_true rfl) (cell1_all rfl) rfl) ?_
   refine D_done (by kernel_rfl) ?_
   refine T_keep (kc 1 rfl <| kc 5 rfl <| kc 6 rfl <| kc 7 rfl <| kc 19 rfl <| kc 20 rfl <| kc 21 rfl <| kn) rfl ?_
   refine T_reg ?_
   refine R_q _ rfl (v_add (ov rfl) (ov rfl) rfl) ?_
   refine R_q _ rfl (v_move (ov rfl)) ?_
   refine R_nil ?_
   exact ⟨(l2, (i64 (i + 1))), h, Ent.sel [some 0, some 1, some 2] (sd 1 rfl rfl <| sd 5 rfl rfl <| sr 6 rfl (.ptr _ _ _ rfl) <| sr 7 rfl (.ptr _ _ _ rfl) <| sd 19 rfl rfl <| sd 20 rfl rfl <| sd 21 rfl rfl <| sn) (.cons rfl (ro1 (by exact tZ_65.symm) (rld rfl)) <| .cons rfl (ro1 (by exact tZ_65.symm) (rlc (.dat rfl) <| rlc (.own _ rfl) <| rln)) <| .cons rfl (roM D129) <| .nil) rfl rfl⟩
  ·
   refine T_exit ?_
   rw [lx h] at ho1
   replace h := ho1
   exact ⟨Memos2, h, Ent.sel [some 0, some 1, some 2] (sr 6 rfl (.ptr _ _ _ rfl) <| sr 7 rfl (.ptr _ _ _ rfl) <| sn) (.cons rfl (ro1 (by exact tZ_65.symm) (rld rfl)) <| .cons rfl (ro1 (by exact tZ_65.symm) (rlc (.dat rfl) <| rlc (.own _ rfl) <| rln)) <| .cons rfl (roM D129) <| .nil) rfl rfl⟩
 ·
  obtain ⟨Memos, rfl⟩ : ∃ x, x = j := ⟨_, rfl⟩
  replace h := t1i h
  refine t1T ?_
  refine T_seq (T_reg ?_)
  refine R_q _ rfl (v_loadA (ov rfl) rfl rfl rfl tA65 rfl rfl) ?_
  refine R_w _ _ rfl (w_store (ov rfl) (ov rfl) (cells_agg tA65 rfl) rfl rfl rfl (Nat.le_of_ble_eq_true rfl) (cell1_all rfl) rfl) ?_
  refine R_nil ?_
  obtain rfl := rt (v := (api_PanelState.mk (i64 (s.Frame + 1)) Memos)) h
  refine T_ret (retq ?_ (.one (.agg rfl rfl rfl rfl tA65 rfl rfl (.cons (Dat.view (.b rfl)) <| .cons (View.ownM rfl rfl D129) <| .nil))))
  rfl

theorem ok_ref8_digits {n : Int} {den : Int} {places : Int} {r : Str} (h : ref8_digits n den places = some r) :
  CSpec Tryz.prog gl0 66 [.int .i64 n, .int .i64 den, .int .i64 places] (.str r) := by
 unfold ref8_digits at h
 replace h := bnd0 h
 refine spec_of (by kernel_rfl) Tryz.func66 rfl rfl ?_
 intro w0 A
 refine T_seq (T_reg ?_)
 refine R_q _ rfl (v_assign (ov rfl)) ?_
 refine R_nil ?_
 refine T_keep (kc 0 rfl <| kc 1 rfl <| kc 2 rfl <| kn) rfl ?_
 refine T_seq (T_reg ?_)
 refine R_q _ rfl (v_move (ov rfl)) ?_
 refine R_q _ rfl (v_assign (ov rfl)) ?_
 refine R_q _ rfl (v_assign (ov rfl)) ?_
 refine R_nil ?_
 refine T_joinG id (t2 fun size sign => ⟨[(1, .int .i64 den), (2, .int .i64 places), (7, .int .i64 size), (8, .str sign)], []⟩) h (fun h => ?_) (fun j h => ?_)
 ·
  refine T_keep (kc 0 rfl <| kc 1 rfl <| kc 2 rfl <| kc 7 rfl <| kc 8 rfl <| kn) rfl ?_
  refine T_seq (T_reg ?_)
  refine R_q _ rfl (v_move (ov rfl)) ?_
  refine R_q _ rfl (v_lss (ov rfl) (ov rfl)) ?_
  refine R_nil ?_
  refine T_keep (kc 0 rfl <| kc 1 rfl <| kc 2 rfl <| kc 7 rfl <| kc 8 rfl <| kc 15 rfl <| kn) rfl ?_
  refine T_if h rfl (fun b15 h => ?_) (fun b15 h => ?_)
  ·
   refine T_keep (kc 0 rfl <| kc 1 rfl <| kc 2 rfl <| kc 7 rfl <| kc 8 rfl <| kn) rfl ?_
   refine T_reg ?_
   refine R_q _ rfl (v_move (ov rfl)) ?_
   refine R_q _ rfl (v_neg (ov rfl) rfl) ?_
   refine R_q _ rfl (v_assign (ov rfl)) ?_
   refine R_q _ rfl (v_assign (ov rfl)) ?_
   refine R_nil ?_
   exact ⟨((i64 (-n)), [45]), h, Ent.sel [] (sd 1 rfl rfl <| sd 2 rfl rfl <| sd 7 rfl rfl <| sd 8 rfl rfl <| sn) (.nil) rfl rfl⟩
  ·
   refine T_skip ?_
   exact ⟨(n, []), h, Ent.sel [] (sd 1 rfl rfl <| sd 2 rfl rfl <| sd 7 rfl rfl <| sd 8 rfl rfl <| sn) (.nil) rfl rfl⟩
 ·
  obtain ⟨size, sign⟩ := j
  replace h := t2i h
  refine t2T ?_
  refine T_seq (T_reg ?_)
  refine R_q _ rfl (v_assign (ov rfl)) ?_
  refine R_nil ?_
  refine T_joinG id (t1 fun unit => ⟨[(1, .int .i64 den), (2, .int .i64 places), (7, .int .i64 size), (8, .str sign), (9, .int .i64 unit)], []⟩) h (fun h => ?_) (fun j h => ?_)
  ·
   refine T_seq (T_reg ?_)
   refine R_q _ rfl (v_move (ov rfl)) ?_
   refine R_q _ rfl (v_move (ov rfl)) ?_
   refine R_nil ?_
   refine T_block ?_
   obtain ⟨r1, hl1, ho1⟩ := bndL h
   refine T_loopG _ (t2 fun unit2 i => ⟨[(1, .int .i64 den), (2, .int .i64 places), (7, .int .i64 size), (8, .str sign), (9, .int .i64 unit2), (18, .int .i64 places), (19, .int .i64 i)], []⟩) _ hl1 (Ent.sel [] (sd 1 rfl rfl <| sd 2 rfl rfl <| sd 7 rfl rfl <| sd 8 rfl rfl <| sd 9 rfl rfl <| sd 18 rfl rfl <| sd 19 rfl rfl <| sn) (.nil) rfl rfl) (fun n1 s1 h => ?_)
   obtain ⟨unit2, i⟩ := s1
   replace h := t2i h
   refine t2T ?_
   unfold ref8_digits_L1 at h
   refine T_seq (T_reg ?_)
   refine R_q _ rfl (v_lss (ov rfl) (ov rfl)) ?_
   refine R_nil ?_
   refine T_seq ?_
   refine T_if h rfl (fun b20 h => ?_) (fun b20 h => ?_)
   ·
    refine T_skip ?_
    refine T_seq ?_
    refine T_block ?_
    refine T_keep (kc 1 rfl <| kc 2 rfl <| kc 7 rfl <| kc 8 rfl <| kc 9 rfl <| kc 18 rfl <| kc 19 rfl <| kn) rfl ?_
    refine T_reg ?_
    refine R_q _ rfl (v_move (ov rfl)) ?_
    refine R_q _ rfl (v_mul (ov rfl) (ov rfl) rfl) ?_
    refine R_q _ rfl (v_assign (ov rfl)) ?_
    refine R_nil ?_
    refine T_keep (kc 1 rfl <| kc 2 rfl <| kc 7 rfl <| kc 8 rfl <| kc 9 rfl <| kc 18 rfl <| kc 19 rfl <| kn) rfl ?_
    refine T_reg ?_
    refine R_q _ rfl (v_add (ov rfl) (ov rfl) rfl) ?_
    refine R_q _ rfl (v_move (ov rfl)) ?_
    refine R_nil ?_
    exact ⟨((i64 (unit2 * 10)), (i64 (i + 1))), h, Ent.sel [] (sd 1 rfl rfl <| sd 2 rfl rfl <| sd 7 rfl rfl <| sd 8 rfl rfl <| sd 9 rfl rfl <| sd 18 rfl rfl <| sd 19 rfl rfl <| sn) (.nil) rfl rfl⟩
   ·
    refine T_exit ?_
    rw [lx h] at ho1
    replace h := ho1
    exact ⟨unit2, h, Ent.sel [] (sd 1 rfl rfl <| sd 2 rfl rfl <| sd 7 rfl rfl <| sd 8 rfl rfl <| sd 9 rfl rfl <| sn) (.nil) rfl rfl⟩
  ·
   obtain ⟨unit, rfl⟩ : ∃ x, x = j := ⟨_, rfl⟩
   replace h := t1i h
   refine t1T ?_
   refine T_seq (T_draw (cw := md0) (by kernel_rfl) ?_)
   refine D_q0 0 _ rfl (by kernel_rfl) rfl rfl (v_move (ov rfl)) ?_
   refine D_q0 1 _ rfl (by kernel_rfl) rfl rfl (v_move (ov rfl)) ?_
   obtain ⟨q, h_q, h⟩ := bnd h
   refine D_q0 2 _ rfl (by kernel_rfl) rfl rfl (v_quoG (ov rfl) (ov rfl) h_q) ?_
   refine D_q0 3 _ rfl (by kernel_rfl) rfl rfl (v_move (ov rfl)) ?_
   refine D_q0 4 _ rfl (by kernel_rfl) rfl rfl (v_mul (ov rfl) (ov rfl) rfl) ?_
   refine D_q0 5 _ rfl (by kernel_rfl) rfl rfl (v_move (ov rfl)) ?_
   refine D_q0 6 _ rfl (by kernel_rfl) rfl rfl (v_move (ov rfl)) ?_
   obtain ⟨q2, h_q2, h⟩ := bnd h
   refine D_q0 7 _ rfl (by kernel_rfl) rfl rfl (v_remG (ov rfl) (ov rfl) h_q2) ?_
   refine D_q0 8 _ rfl (by kernel_rfl) rfl rfl (v_mul (ov rfl) (ov rfl) rfl) ?_
   refine D_q0 9 _ rfl (by kernel_rfl) rfl rfl (v_move (ov rfl)) ?_
   refine D_q0 10 _ rfl (by kernel_rfl) rfl rfl (v_add (ov rfl) (ov rfl) rfl) ?_
   refine D_q0 11 _ rfl (by kernel_rfl) rfl rfl (v_move (ov rfl)) ?_
   refine D_q0 12 _ rfl (by kernel_rfl) rfl rfl (v_mul (ov rfl) (ov rfl) rfl) ?_
   obtain ⟨q3, h_q3, h⟩ := bnd h
   refine D_q0 13 _ rfl (by kernel_rfl) rfl rfl (v_quoG (ov rfl) (ov rfl) h_q3) ?_
   refine D_q0 14 _ rfl (by kernel_rfl) rfl rfl (v_assign (ov rfl)) ?_
   refine D_q0 15 _ rfl (by kernel_rfl) rfl rfl (v_assign (ov rfl)) ?_
   refine D_done (by kernel_rfl) ?_
   refine T_joinG id (t2 fun whole part => ⟨[(2, .int .i64 places), (8, .str sign), (9, .int .i64 unit), (10, .int .i64 whole), (11, .int .i64 part)], []⟩) h (fun h => ?_) (fun j h => ?_)
   ·
    refine T_keep (kc 2 rfl <| kc 8 rfl <| kc 9 rfl <| kc 10 rfl <| kc 11 rfl <| kn) rfl ?_
    refine T_seq (T_reg ?_)
    refine R_q _ rfl (v_move (ov rfl)) ?_
    refine R_q _ rfl (v_move (ov rfl)) ?_
    refine R_q _ rfl (v_eql (ov rfl) (ov rfl)) ?_
    refine R_nil ?_
    refine T_keep (kc 2 rfl <| kc 8 rfl <| kc 9 rfl <| kc 10 rfl <| kc 11 rfl <| kc 40 rfl <| kn) rfl ?_
    refine T_if h rfl (fun b40 h => ?_) (fun b40 h => ?_)
    ·
     refine T_keep (kc 2 rfl <| kc 8 rfl <| kc 9 rfl <| kc 10 rfl <| kc 11 rfl <| kn) rfl ?_
     refine T_reg ?_
     refine R_q _ rfl (v_move (ov rfl)) ?_
     refine R_q _ rfl (v_add (ov rfl) (ov rfl) rfl) ?_
     refine R_q _ rfl (v_assign (ov rfl)) ?_
     refine R_q _ rfl (v_assign (ov rfl)) ?_
     refine R_nil ?_
     exact ⟨((i64 (q + 1)), 0), h, Ent.sel [] (sd 2 rfl rfl <| sd 8 rfl rfl <| sd 9 rfl rfl <| sd 10 rfl rfl <| sd 11 rfl rfl <| sn) (.nil) rfl rfl⟩
    ·
     refine T_skip ?_
     exact ⟨(q, q3), h, Ent.sel [] (sd 2 rfl rfl <| sd 8 rfl rfl <| sd 9 rfl rfl <| sd 10 rfl rfl <| sd 11 rfl rfl <| sn) (.nil) rfl rfl⟩
   ·
    obtain ⟨whole, part⟩ := j
    replace h := t2i h
    refine t2T ?_
    refine T_joinG id (t1 fun sign2 => ⟨[(2, .int .i64 places), (8, .str sign2), (9, .int .i64 unit), (10, .int .i64 whole), (11, .int .i64 part)], []⟩) h (fun h => ?_) (fun j h => ?_)
    ·
     refine T_seq (T_reg ?_)
     refine R_q _ rfl (v_move (ov rfl)) ?_
     refine R_q _ rfl (v_eql (ov rfl) (ov rfl)) ?_
     refine R_q _ rfl (v_move (ov rfl)) ?_
     refine R_q _ rfl (.guarded ((decide (whole = 0)) == true) rfl rfl rfl rfl fun h => v_move (ov rfl)) ?_
     refine R_q _ rfl (.guarded ((decide (whole = 0)) == true) rfl rfl rfl rfl fun h => v_eql (ow rfl h) (ov rfl)) ?_
     refine R_q _ rfl (v_and (ov rfl) (fun hp => ow rfl (gT hp))) ?_
     refine R_nil ?_
     refine T_keep (kc 2 rfl <| kc 8 rfl <| kc 9 rfl <| kc 10 rfl <| kc 11 rfl <| kc 48 rfl <| kn) rfl ?_
     refine T_if h rfl (fun b48 h => ?_) (fun b48 h => ?_)
     ·
      refine T_keep (kc 2 rfl <| kc 8 rfl <| kc 9 rfl <| kc 10 rfl <| kc 11 rfl <| kn) rfl ?_
      refine T_reg ?_
      refine R_q _ rfl (v_assign (ov rfl)) ?_
      refine R_nil ?_
      exact ⟨[], h, Ent.sel [] (sd 2 rfl rfl <| sd 8 rfl rfl <| sd 9 rfl rfl <| sd 10 rfl rfl <| sd 11 rfl rfl <| sn) (.nil) rfl rfl⟩
     ·
      refine T_skip ?_
      exact ⟨sign, h, Ent.sel [] (sd 2 rfl rfl <| sd 8 rfl rfl <| sd 9 rfl rfl <| sd 10 rfl rfl <| sd 11 rfl rfl <| sn) (.nil) rfl rfl⟩
    ·
     obtain ⟨sign2, rfl⟩ : ∃ x, x = j := ⟨_, rfl⟩
     replace h := t1i h
     refine t1T ?_
     refine T_seq (T_reg ?_)
     refine R_q _ rfl (v_move (ov rfl)) ?_
     obtain ⟨y, h_y, h⟩ := bnd h
     refine R_q _ rfl (v_call (ok_itoaL h_y) (.cons (ov rfl) (.b rfl) <| .nil)) ?_
     refine R_q _ rfl (v_assign (ov rfl)) ?_
     refine R_nil ?_
     refine T_joinG id (t1 fun s => ⟨[(8, .str sign2), (12, .str s)], []⟩) h (fun h => ?_) (fun j h => ?_)
     ·
      refine T_keep (kc 2 rfl <| kc 8 rfl <| kc 9 rfl <| kc 11 rfl <| kc 12 rfl <| kn) rfl ?_
      refine T_seq (T_reg ?_)
      refine R_q _ rfl (v_move (ov rfl)) ?_
      refine R_q _ rfl (v_gtr (ov rfl) (ov rfl)) ?_
      refine R_nil ?_
      refine T_keep (kc 8 rfl <| kc 9 rfl <| kc 11 rfl <| kc 12 rfl <| kc 52 rfl <| kn) rfl ?_
      refine T_if h rfl (fun b52 h => ?_) (fun b52 h => ?_)
      ·
       refine T_keep (kc 8 rfl <| kc 9 rfl <| kc 11 rfl <| kc 12 rfl <| kn) rfl ?_
       refine T_reg ?_
       refine R_q _ rfl (v_move (ov rfl)) ?_
       refine R_q _ rfl (v_move (ov rfl)) ?_
       refine R_q _ rfl (v_move (ov rfl)) ?_
       refine R_q _ rfl (v_add (ov rfl) (ov rfl) rfl) ?_
       obtain ⟨y2, h_y2, h⟩ := bnd h
       refine R_q _ rfl (v_call (ok_itoaL h_y2) (.cons (ov rfl) (.b rfl) <| .nil)) ?_
       obtain ⟨s2, h_s2, h⟩ := bnd h
       refine R_q _ rfl (v_sliceStrG (ov rfl) tStr9 (oi (ov rfl)) on h_s2) ?_
       obtain ⟨s3, h_s3, h⟩ := bnd h
       refine R_q _ rfl (v_catG (ov rfl) (ov rfl) h_s3) ?_
       obtain ⟨s4, h_s4, h⟩ := bnd h
       refine R_q _ rfl (v_catG (ov rfl) (ov rfl) h_s4) ?_
       refine R_q _ rfl (v_assign (ov rfl)) ?_
       refine R_nil ?_
       exact ⟨s4, h, Ent.sel [] (sd 8 rfl rfl <| sd 12 rfl rfl <| sn) (.nil) rfl rfl⟩
      ·
       refine T_skip ?_
       exact ⟨y, h, Ent.sel [] (sd 8 rfl rfl <| sd 12 rfl rfl <| sn) (.nil) rfl rfl⟩
     ·
      obtain ⟨s, rfl⟩ : ∃ x, x = j := ⟨_, rfl⟩
      replace h := t1i h
      refine t1T ?_
      refine T_seq (T_reg ?_)
      refine R_q _ rfl (v_move (ov rfl)) ?_
      refine R_q _ rfl (v_move (ov rfl)) ?_
      obtain ⟨s5, h_s5, h⟩ := bnd h
      refine R_q _ rfl (v_catG (ov rfl) (ov rfl) h_s5) ?_
      refine R_q _ rfl (v_assign (ov rfl)) ?_
      refine R_nil ?_
      obtain rfl := rt (v := s5) h
      refine T_ret (retq ?_ (.one (.tmp rfl (Dat.view (.b rfl)))))
      rfl

theorem ok_ref8_needle {i : api_Instrument} {n : Int} {r : Int} (h : ref8_needle i n = some r) :
  CSpec Tryz.prog gl0 85 [.agg [.int .i64 i.Kind, .str i.Name, .str i.Track, .int .i64 i.Places, .int .i64 i.Low, .int .i64 i.High, .int .i64 i.Steps, .sl 169 (List.map R169 i.Zones), .int .i64 i.Op, .int .i64 i.N, .bool i.Latch, .int .i64 i.Size], .int .i64 n] (.int .i64 r) := by
 unfold ref8_needle at h
 replace h := bnd0 h
 refine spec_of (by kernel_rfl) Tryz.func85 rfl rfl ?_
 intro w0 A
 refine T_seq (T_reg ?_)
 refine R_q _ rfl (v_boxD (cva (ov rfl)) rfl tZ_55 rfl) ?_
 refine R_q _ rfl (v_assign (ov rfl)) ?_
 refine R_nil ?_
 refine T_seq ?_
 refine T_keep (kc 1 rfl <| kc 2 rfl <| kn) rfl ?_
 refine T_seq (T_reg ?_)
 refine R_q _ rfl (v_move (ov rfl)) ?_
 refine R_q _ rfl (v_fieldR (ov rfl) tF55_4) ?_
 refine R_q _ rfl (v_loadS_r (ov rfl) tS3 rfl) ?_
 refine R_q _ rfl (v_leq (ov rfl) (ov rfl)) ?_
 refine R_nil ?_
 refine T_keep (kc 1 rfl <| kc 2 rfl <| kc 8 rfl <| kn) rfl ?_
 refine T_if h rfl (fun b8 h => ?_) (fun b8 h => ?_)
 ·
  refine T_keep (kn) rfl ?_
  refine T_seq (T_reg ?_)
  refine R_q _ rfl (v_assign (ov rfl)) ?_
  refine R_nil ?_
  obtain rfl := rt (v := 0) h
  refine T_ret (retq ?_ (.one (.tmp rfl (Dat.view (.b rfl)))))
  rfl
 ·
  refine T_skip ?_
  refine T_seq ?_
  refine T_keep (kc 1 rfl <| kc 2 rfl <| kn) rfl ?_
  refine T_seq (T_reg ?_)
  refine R_q _ rfl (v_move (ov rfl)) ?_
  refine R_q _ rfl (v_fieldR (ov rfl) tF55_5) ?_
  refine R_q _ rfl (v_loadS_r (ov rfl) tS3 rfl) ?_
  refine R_q _ rfl (v_geq (ov rfl) (ov rfl)) ?_
  refine R_nil ?_
  refine T_keep (kc 1 rfl <| kc 2 rfl <| kc 12 rfl <| kn) rfl ?_
  refine T_if h rfl (fun b12 h => ?_) (fun b12 h => ?_)
  ·
   refine T_keep (kc 2 rfl <| kn) rfl ?_
   refine T_seq (T_reg ?_)
   refine R_q _ rfl (v_fieldR (ov rfl) tF55_6) ?_
   refine R_q _ rfl (v_loadS_r (ov rfl) tS3 rfl) ?_
   refine R_q _ rfl (v_assign (ov rfl)) ?_
   refine R_nil ?_
   obtain rfl := rt (v := i.Steps) h
   refine T_ret (retq ?_ (.one (.tmp rfl (Dat.view (.b rfl)))))
   rfl
  ·
   refine T_skip ?_
   refine T_keep (kc 1 rfl <| kc 2 rfl <| kn) rfl ?_
   refine T_seq (T_reg ?_)
   refine R_q _ rfl (v_move (ov rfl)) ?_
   refine R_q _ rfl (v_fieldR (ov rfl) tF55_4) ?_
   refine R_q _ rfl (v_loadS_r (ov rfl) tS3 rfl) ?_
   refine R_q _ rfl (v_sub (ov rfl) (ov rfl) rfl) ?_
   refine R_q _ rfl (v_fieldR (ov rfl) tF55_6) ?_
   refine R_q _ rfl (v_loadS_r (ov rfl) tS3 rfl) ?_
   refine R_q _ rfl (v_mul (ov rfl) (ov rfl) rfl) ?_
   refine R_q _ rfl (v_fieldR (ov rfl) tF55_5) ?_
   refine R_q _ rfl (v_loadS_r (ov rfl) tS3 rfl) ?_
   refine R_q _ rfl (v_fieldR (ov rfl) tF55_4) ?_
   refine R_q _ rfl (v_loadS_r (ov rfl) tS3 rfl) ?_
   refine R_q _ rfl (v_sub (ov rfl) (ov rfl) rfl) ?_
   obtain ⟨q, h_q, h⟩ := bnd h
   refine R_q _ rfl (v_quoG (ov rfl) (ov rfl) h_q) ?_
   refine R_q _ rfl (v_assign (ov rfl)) ?_
   refine R_nil ?_
   obtain rfl := rt (v := q) h
   refine T_ret (retq ?_ (.one (.tmp rfl (Dat.view (.b rfl)))))
   rfl

theorem ok_ref8_zone {i : api_Instrument} {n : Int} {r : Str} (h : ref8_zone i n = some r) :
  CSpec Tryz.prog gl0 87 [.agg [.int .i64 i.Kind, .str i.Name, .str i.Track, .int .i64 i.Places, .int .i64 i.Low, .int .i64 i.High, .int .i64 i.Steps, .sl 169 (List.map R169 i.Zones), .int .i64 i.Op, .int .i64 i.N, .bool i.Latch, .int .i64 i.Size], .int .i64 n] (.str r) := by
 unfold ref8_zone at h
 replace h := bnd0 h
 refine spec_of (by kernel_rfl) Tryz.func87 rfl rfl ?_
 intro w0 A
 refine T_seq (T_reg ?_)
 refine R_q _ rfl (v_boxD (cva (ov rfl)) rfl tZ_55 rfl) ?_
 refine R_q _ rfl (v_assign (ov rfl)) ?_
 refine R_nil ?_
 refine T_joinG (fun j => (.inr j)) (t0 ⟨[], []⟩) h (fun h => ?_) (fun j h => ?_)
 ·
  refine T_keep (kc 1 rfl <| kc 2 rfl <| kn) rfl ?_
  refine T_seq (T_reg ?_)
  refine R_q _ rfl (v_fieldR (ov rfl) tF55_7) ?_
  refine R_q _ rfl (v_loadS_r (ov rfl) tS53 rfl) ?_
  refine R_q _ rfl (v_len (slv_sl (ov rfl) tZ_169) tL53 (len_map _ _)) ?_
  refine R_q _ rfl (v_move (ov rfl)) ?_
  refine R_nil ?_
  refine T_block ?_
  obtain ⟨r1, hl1, ho1⟩ := bndL h
  refine T_loopG _ (t1 fun i2 => ⟨[(1, .int .i64 n), (8, .sl 169 (List.map R169 i.Zones)), (9, .int .i64 (i.Zones.length : Int)), (10, .int .i64 i2)], []⟩) _ hl1 (Ent.sel [] (sd 1 rfl rfl <| sd 8 rfl rfl <| sd 9 rfl rfl <| sd 10 rfl rfl <| sn) (.nil) rfl rfl) (fun n1 s1 h => ?_)
  obtain ⟨i2, rfl⟩ : ∃ x, x = s1 := ⟨_, rfl⟩
  replace h := t1i h
  refine t1T ?_
  unfold ref8_zone_L1 at h
  refine T_seq (T_reg ?_)
  refine R_q _ rfl (v_lss (ov rfl) (ov rfl)) ?_
  refine R_nil ?_
  refine T_seq ?_
  refine T_if h rfl (fun b11 h => ?_) (fun b11 h => ?_)
  ·
   refine T_skip ?_
   refine T_seq ?_
   refine T_block ?_
   refine T_keep (kc 1 rfl <| kc 8 rfl <| kc 9 rfl <| kc 10 rfl <| kn) rfl ?_
   refine T_seq (T_reg ?_)
   obtain ⟨x, h_x, h⟩ := bnd h
   refine R_q _ rfl (v_ixSG (ov rfl) (ov rfl) tL53 h_x) ?_
   refine R_q _ rfl (v_loadA_r (ov rfl) tA169 rfl rfl) ?_
   refine R_w _ _ rfl (w_alloc (row := [_, _, _]) 0 rfl tZ169 rfl tZ_169) ?_
   refine R_w _ _ rfl (w_store (ov rfl) (ov rfl) (cells_agg tA169 rfl) rfl rfl rfl (Nat.le_of_ble_eq_true rfl) (cell1_all rfl) rfl) ?_
   refine R_nil ?_
   refine T_keep (kc 1 rfl <| kc 6 rfl <| kc 8 rfl <| kc 9 rfl <| kc 10 rfl <| kn) rfl ?_
   refine T_seq (T_reg ?_)
   refine R_q _ rfl (v_fieldP (ov rfl) rfl rfl tF169_0) ?_
   refine R_q _ rfl (v_loadS (ov rfl) rfl rfl rfl tS3 rfl) ?_
   refine R_q _ rfl (v_move (ov rfl)) ?_
   refine R_q _ rfl (v_leq (ov rfl) (ov rfl)) ?_
   refine R_q _ rfl (v_move (ov rfl)) ?_
   refine R_q _ rfl (.guarded ((decide (x.From ≤ n)) == true) rfl rfl rfl rfl fun h => v_move (ov rfl)) ?_
   refine R_q _ rfl (.guarded ((decide (x.From ≤ n)) == true) rfl rfl rfl rfl fun h => v_fieldP (ov rfl) rfl rfl tF169_1) ?_
   refine R_q _ rfl (.guarded ((decide (x.From ≤ n)) == true) rfl rfl rfl rfl fun h => v_loadS (ow rfl h) rfl rfl rfl tS3 rfl) ?_
   refine R_q _ rfl (.guarded ((decide (x.From ≤ n)) == true) rfl rfl rfl rfl fun h => v_leq (ow rfl h) (ow rfl h)) ?_
   refine R_q _ rfl (v_and (ov rfl) (fun hp => ow rfl (gT hp))) ?_
   refine R_nil ?_
   refine T_keep (kc 1 rfl <| kc 6 rfl <| kc 8 rfl <| kc 9 rfl <| kc 10 rfl <| kc 23 rfl <| kn) rfl ?_
   refine T_if h rfl (fun b23 h => ?_) (fun b23 h => ?_)
   ·
    refine T_keep (kc 6 rfl <| kn) rfl ?_
    refine T_seq (T_reg ?_)
    refine R_q _ rfl (v_fieldP (ov rfl) rfl rfl tF169_2) ?_
    refine R_q _ rfl (v_loadS (ov rfl) rfl rfl rfl tS9 rfl) ?_
    refine R_q _ rfl (v_assign (ov rfl)) ?_
    refine R_nil ?_
    rw [lx h] at ho1
    replace h := ho1
    obtain rfl := rt (v := x.Name) h
    refine T_ret (retq ?_ (.one (.tmp rfl (Dat.view (.b rfl)))))
    rfl
   ·
    refine T_skip ?_
    refine T_keep (kc 1 rfl <| kc 8 rfl <| kc 9 rfl <| kc 10 rfl <| kn) rfl ?_
    refine T_reg ?_
    refine R_q _ rfl (v_add (ov rfl) (ov rfl) rfl) ?_
    refine R_q _ rfl (v_move (ov rfl)) ?_
    refine R_nil ?_
    exact ⟨(i64 (i2 + 1)), h, Ent.sel [] (sd 1 rfl rfl <| sd 8 rfl rfl <| sd 9 rfl rfl <| sd 10 rfl rfl <| sn) (.nil) rfl rfl⟩
  ·
   refine T_exit ?_
   rw [lx h] at ho1
   replace h := ho1
   exact ⟨(), h, Ent.sel [] (sn) (.nil) rfl rfl⟩
 ·
  replace h := elr h
  cases j
  replace h := t0i h
  refine t0T ?_
  refine T_seq (T_reg ?_)
  refine R_q _ rfl (v_assign (ov rfl)) ?_
  refine R_nil ?_
  obtain rfl := rt (v := []) h
  refine T_ret (retq ?_ (.one (.tmp rfl (Dat.view (.b rfl)))))
  rfl

theorem ok_ref8_face {i : api_Instrument} {den : Int} {m : api_Memo} {s : api_Sample} {known : Bool} {r : api_Face} (h : ref8_face i den m s known = some r) :
  CSpec Tryz.prog gl0 134 [.agg [.int .i64 i.Kind, .str i.Name, .str i.Track, .int .i64 i.Places, .int .i64 i.Low, .int .i64 i.High, .int .i64 i.Steps, .sl 169 (List.map R169 i.Zones), .int .i64 i.Op, .int .i64 i.N, .bool i.Latch, .int .i64 i.Size], .int .i64 den, .agg [.bool m.Lit, .bool m.Some, .int .i64 m.N, .int .i64 m.Count, .sl 3 (List.map R3 m.Tape)], .agg [.int .i64 s.At, .int .i64 s.N, .int .i64 s.Mark], .bool known] (.agg [.str r.Text, .int .i64 r.Needle, .bool r.Lit, .int .i64 r.Mark]) := by
 unfold ref8_face at h
 replace h := bnd0 h
 refine spec_of (by kernel_rfl) Tryz.func134 rfl rfl ?_
 intro w0 A
 refine T_seq (T_reg ?_)
 refine R_q _ rfl (v_boxD (cva (ov rfl)) rfl tZ_55 rfl) ?_
 refine R_q _ rfl (v_boxD (cva (ov rfl)) rfl tZ_129 rfl) ?_
 refine R_q _ rfl (v_boxD (cva (ov rfl)) rfl tZ_28 rfl) ?_
 refine R_w _ _ rfl (w_alloc (row := [_, _, _, _]) 0 rfl tZ57 rfl tZ_57) ?_
 refine R_nil ?_
 refine T_keep (kc 1 rfl <| kc 4 rfl <| kc 5 rfl <| kc 7 rfl <| kc 8 rfl <| kc 10 rfl <| kn) rfl ?_
 refine T_seq (T_reg ?_)
 refine R_q _ rfl (v_build (ys := [_, _, _, _]) tPL57 tHA57 tZ57 (.cons (cvs (ov rfl) (cell1_b rfl)) <| .cons (cvs (ov rfl) (cell1_b rfl)) <| .nil) rfl) ?_
 refine R_w _ _ rfl (w_alloc (row := [_, _, _, _]) 1 rfl tZ57 rfl tZ_57) ?_
 refine R_w _ _ rfl (w_store (ov rfl) (ov rfl) (cells_agg tA57 rfl) rfl rfl rfl (Nat.le_of_ble_eq_true rfl) (cell1_all rfl) rfl) ?_
 refine R_nil ?_
 refine T_joinG id (t1 fun Mark => ⟨[(1, .int .i64 den), (4, .bool known), (5, .rp [.int .i64 i.Kind, .str i.Name, .str i.Track, .int .i64 i.Places, .int .i64 i.Low, .int .i64 i.High, .int .i64 i.Steps, .sl 169 (List.map R169 i.Zones), .int .i64 i.Op, .int .i64 i.N, .bool i.Latch, .int .i64 i.Size] 0), (7, .rp [.bool m.Lit, .bool m.Some, .int .i64 m.N, .int .i64 m.Count, .sl 3 (List.map R3 m.Tape)] 0), (8, .rp [.int .i64 s.At, .int .i64 s.N, .int .i64 s.Mark] 0), (10, .ptr 0 1 0 0), (11, .ptr 1 1 0 0)], [some ⟨57, [[.str [], .int .i64 0, .bool false, .int .i64 0]]⟩, some ⟨57, [[.str [45, 45, 45], .int .i64 0, .bool false, .int .i64 Mark]]⟩]⟩) h (fun h => ?_) (fun j h => ?_)
 ·
  refine T_keep (kc 1 rfl <| kc 4 rfl <| kc 5 rfl <| kc 7 rfl <| kc 8 rfl <| kc 10 rfl <| kc 11 rfl <| kn) rfl ?_
  refine T_seq (T_reg ?_)
  refine R_q _ rfl (v_move (ov rfl)) ?_
  refine R_nil ?_
  refine T_if h rfl (fun b15 h => ?_) (fun b15 h => ?_)
  ·
   refine T_keep (kc 1 rfl <| kc 4 rfl <| kc 5 rfl <| kc 7 rfl <| kc 8 rfl <| kc 10 rfl <| kc 11 rfl <| kn) rfl ?_
   refine T_reg ?_
   refine R_q _ rfl (v_fieldR (ov rfl) tF28_2) ?_
   refine R_q _ rfl (v_loadS_r (ov rfl) tS3 rfl) ?_
   refine R_q _ rfl (v_fieldP (ov rfl) rfl rfl tF57_3) ?_
   refine R_w _ _ rfl (w_store (ov rfl) (ov rfl) (cells_scal tS3) rfl rfl rfl (Nat.le_of_ble_eq_true rfl) (cell1_all rfl) rfl) ?_
   refine R_nil ?_
   exact ⟨s.Mark, h, Ent.sel [some 0, some 1] (sd 1 rfl rfl <| sd 4 rfl rfl <| sd 5 rfl rfl <| sd 7 rfl rfl <| sd 8 rfl rfl <| sr 10 rfl (.ptr _ _ _ rfl) <| sr 11 rfl (.ptr _ _ _ rfl) <| sn) (.cons rfl (ro1 (by exact tZ_57.symm) (rld rfl)) <| .cons rfl (ro1 (by exact tZ_57.symm) (rld rfl)) <| .nil) rfl rfl⟩
  ·
   refine T_skip ?_
   exact ⟨0, h, Ent.sel [some 0, some 1] (sd 1 rfl rfl <| sd 4 rfl rfl <| sd 5 rfl rfl <| sd 7 rfl rfl <| sd 8 rfl rfl <| sr 10 rfl (.ptr _ _ _ rfl) <| sr 11 rfl (.ptr _ _ _ rfl) <| sn) (.cons rfl (ro1 (by exact tZ_57.symm) (rld rfl)) <| .cons rfl (ro1 (by exact tZ_57.symm) (rld rfl)) <| .nil) rfl rfl⟩
 ·
  obtain ⟨Mark, rfl⟩ : ∃ x, x = j := ⟨_, rfl⟩
  replace h := t1i h
  refine t1T ?_
  refine T_joinG id (t1 fun f => ⟨[(10, .ptr 0 1 0 0), (11, .ptr 1 1 0 0)], [some ⟨57, [[.str [], .int .i64 0, .bool false, .int .i64 0]]⟩, some ⟨57, [[.str f.Text, .int .i64 f.Needle, .bool f.Lit, .int .i64 f.Mark]]⟩]⟩) h (fun h => ?_) (fun j h => ?_)
  ·
   refine T_seq (T_reg ?_)
   refine R_q _ rfl (v_fieldR (ov rfl) tF55_0) ?_
   refine R_q _ rfl (v_loadS_r (ov rfl) tS3 rfl) ?_
   refine R_nil ?_
   refine T_block ?_
   refine T_keep (kc 1 rfl <| kc 4 rfl <| kc 5 rfl <| kc 7 rfl <| kc 8 rfl <| kc 10 rfl <| kc 11 rfl <| kc 20 rfl <| kn) rfl ?_
   refine T_seq (T_reg ?_)
   refine R_q _ rfl (v_eql (ov rfl) (ov rfl)) ?_
   refine R_q _ rfl (v_assign (ov rfl)) ?_
   refine R_nil ?_
   refine T_keep (kc 1 rfl <| kc 4 rfl <| kc 5 rfl <| kc 7 rfl <| kc 8 rfl <| kc 10 rfl <| kc 11 rfl <| kc 20 rfl <| kc 21 rfl <| kn) rfl ?_
   refine T_if h rfl (fun b21 h => ?_) (fun b21 h => ?_)
   ·
    refine T_keep (kc 1 rfl <| kc 4 rfl <| kc 5 rfl <| kc 8 rfl <| kc 10 rfl <| kc 11 rfl <| kn) rfl ?_
    refine T_seq (T_reg ?_)
    refine R_q _ rfl (v_move (ov rfl)) ?_
    refine R_nil ?_
    refine T_keep (kc 1 rfl <| kc 5 rfl <| kc 8 rfl <| kc 10 rfl <| kc 11 rfl <| kc 23 rfl <| kn) rfl ?_
    refine T_if h rfl (fun b23 h => ?_) (fun b23 h => ?_)
    ·
     refine T_keep (kc 1 rfl <| kc 5 rfl <| kc 8 rfl <| kc 10 rfl <| kc 11 rfl <| kn) rfl ?_
     refine T_reg ?_
     refine R_q _ rfl (v_fieldR (ov rfl) tF28_1) ?_
     refine R_q _ rfl (v_loadS_r (ov rfl) tS3 rfl) ?_
     refine R_q _ rfl (v_move (ov rfl)) ?_
     refine R_q _ rfl (v_fieldR (ov rfl) tF55_3) ?_
     refine R_q _ rfl (v_loadS_r (ov rfl) tS3 rfl) ?_
     obtain ⟨y, h_y, h⟩ := bnd h
     refine R_q _ rfl (v_call (ok_ref8_digits h_y) (.cons (ov rfl) (.b rfl) <| .cons (ov rfl) (.b rfl) <| .cons (ov rfl) (.b rfl) <| .nil)) ?_
     refine R_q _ rfl (v_fieldP (ov rfl) rfl rfl tF57_0) ?_
     refine R_w _ _ rfl (w_store (ov rfl) (ov rfl) (cells_scal tS9) rfl rfl rfl (Nat.le_of_ble_eq_true rfl) (cell1_all rfl) rfl) ?_
     refine R_nil ?_
     exact ⟨(api_Face.mk y 0 false Mark), h, Ent.sel [some 0, some 1] (sr 10 rfl (.ptr _ _ _ rfl) <| sr 11 rfl (.ptr _ _ _ rfl) <| sn) (.cons rfl (ro1 (by exact tZ_57.symm) (rld rfl)) <| .cons rfl (ro1 (by exact tZ_57.symm) (rld rfl)) <| .nil) rfl rfl⟩
    ·
     refine T_skip ?_
     exact ⟨(api_Face.mk [45, 45, 45] 0 false Mark), h, Ent.sel [some 0, some 1] (sr 10 rfl (.ptr _ _ _ rfl) <| sr 11 rfl (.ptr _ _ _ rfl) <| sn) (.cons rfl (ro1 (by exact tZ_57.symm) (rld rfl)) <| .cons rfl (ro1 (by exact tZ_57.symm) (rld rfl)) <| .nil) rfl rfl⟩
   ·
    refine T_keep (kc 1 rfl <| kc 4 rfl <| kc 5 rfl <| kc 7 rfl <| kc 8 rfl <| kc 10 rfl <| kc 11 rfl <| kc 20 rfl <| kn) rfl ?_
    refine T_seq (T_reg ?_)
    refine R_q _ rfl (v_eql (ov rfl) (ov rfl)) ?_
    refine R_q _ rfl (v_assign (ov rfl)) ?_
    refine R_nil ?_
    refine T_keep (kc 1 rfl <| kc 4 rfl <| kc 5 rfl <| kc 7 rfl <| kc 8 rfl <| kc 10 rfl <| kc 11 rfl <| kc 20 rfl <| kc 31 rfl <| kn) rfl ?_
    refine T_if h rfl (fun b31 h => ?_) (fun b31 h => ?_)
    ·
     refine T_keep (kc 4 rfl <| kc 5 rfl <| kc 8 rfl <| kc 10 rfl <| kc 11 rfl <| kn) rfl ?_
     refine T_seq (T_reg ?_)
     refine R_q _ rfl (v_move (ov rfl)) ?_
     refine R_nil ?_
     refine T_keep (kc 5 rfl <| kc 8 rfl <| kc 10 rfl <| kc 11 rfl <| kc 33 rfl <| kn) rfl ?_
     refine T_if h rfl (fun b33 h => ?_) (fun b33 h => ?_)
     ·
      refine T_keep (kc 5 rfl <| kc 8 rfl <| kc 10 rfl <| kc 11 rfl <| kn) rfl ?_
      refine T_draw (cw := md0) (by kernel_rfl) ?_
      refine D_q0 0 _ rfl (by kernel_rfl) rfl rfl (v_loadA_r (ov rfl) tA55 rfl rfl) ?_
      refine D_q0 1 _ rfl (by kernel_rfl) rfl rfl (v_fieldR (ov rfl) tF28_1) ?_
      refine D_q0 2 _ rfl (by kernel_rfl) rfl rfl (v_loadS_r (ov rfl) tS3 rfl) ?_
      obtain ⟨y2, h_y2, h⟩ := bnd h
      refine D_q0 3 _ rfl (by kernel_rfl) rfl rfl (v_call (ok_ref8_needle h_y2) (.cons (ov rfl) (.aggB rfl) <| .cons (ov rfl) (.b rfl) <| .nil)) ?_
      refine D_q0 4 _ rfl (by kernel_rfl) rfl rfl (v_loadA_r (ov rfl) tA55 rfl rfl) ?_
      refine D_q0 5 _ rfl (by kernel_rfl) rfl rfl (v_fieldR (ov rfl) tF28_1) ?_
      refine D_q0 6 _ rfl (by kernel_rfl) rfl rfl (v_loadS_r (ov rfl) tS3 rfl) ?_
      obtain ⟨y3, h_y3, h⟩ := bnd h
      refine D_q0 7 _ rfl (by kernel_rfl) rfl rfl (v_call (ok_ref8_zone h_y3) (.cons (ov rfl) (.aggB rfl) <| .cons (ov rfl) (.b rfl) <| .nil)) ?_
      refine D_q0 8 _ rfl (by kernel_rfl) rfl rfl (v_fieldP (ov rfl) rfl rfl tF57_1) ?_
      refine D_one 9 _ _ rfl (by kernel_rfl) rfl rfl (fun h => by cases h) (fun h => by cases h) (w_store (ov rfl) (ov rfl) (cells_scal tS3) rfl rfl rfl (Nat.le_of_ble_eq_true rfl) (cell1_all rfl) rfl) ?_
      refine D_q0 10 _ rfl (by kernel_rfl) rfl rfl (v_fieldP (ov rfl) rfl rfl tF57_0) ?_
      refine D_one 11 _ _ rfl (by kernel_rfl) rfl rfl (fun h => by cases h) (fun h => by cases h) (w_store (ov rfl) (ov rfl) (cells_scal tS9) rfl rfl rfl (Nat.le_of_ble_eq_true rfl) (cell1_all rfl) rfl) ?_
      refine D_done (by kernel_rfl) ?_
      exact ⟨(api_Face.mk y3 y2 false Mark), h, Ent.sel [some 0, some 1] (sr 10 rfl (.ptr _ _ _ rfl) <| sr 11 rfl (.ptr _ _ _ rfl) <| sn) (.cons rfl (ro1 (by exact tZ_57.symm) (rld rfl)) <| .cons rfl (ro1 (by exact tZ_57.symm) (rld rfl)) <| .nil) rfl rfl⟩
     ·
      refine T_skip ?_
      exact ⟨(api_Face.mk [45, 45, 45] 0 false Mark), h, Ent.sel [some 0, some 1] (sr 10 rfl (.ptr _ _ _ rfl) <| sr 11 rfl (.ptr _ _ _ rfl) <| sn) (.cons rfl (ro1 (by exact tZ_57.symm) (rld rfl)) <| .cons rfl (ro1 (by exact tZ_57.symm) (rld rfl)) <| .nil) rfl rfl⟩
    ·
     refine T_keep (kc 1 rfl <| kc 4 rfl <| kc 5 rfl <| kc 7 rfl <| kc 10 rfl <| kc 11 rfl <| kc 20 rfl <| kn) rfl ?_
     refine T_seq (T_reg ?_)
     refine R_q _ rfl (v_eql (ov rfl) (ov rfl)) ?_
     refine R_q _ rfl (v_assign (ov rfl)) ?_
     refine R_nil ?_
     refine T_keep (kc 1 rfl <| kc 4 rfl <| kc 5 rfl <| kc 7 rfl <| kc 10 rfl <| kc 11 rfl <| kc 20 rfl <| kc 44 rfl <| kn) rfl ?_
     refine T_if h rfl (fun b44 h => ?_) (fun b44 h => ?_)
     ·
      refine T_keep (kc 4 rfl <| kc 7 rfl <| kc 10 rfl <| kc 11 rfl <| kn) rfl ?_
      refine T_seq (T_reg ?_)
      refine R_q _ rfl (v_fieldR (ov rfl) tF129_0) ?_
      refine R_q _ rfl (v_loadS_r (ov rfl) tS4 rfl) ?_
      refine R_q _ rfl (v_fieldP (ov rfl) rfl rfl tF57_2) ?_
      refine R_w _ _ rfl (w_store (ov rfl) (ov rfl) (cells_scal tS4) rfl rfl rfl (Nat.le_of_ble_eq_true rfl) (cell1_all rfl) rfl) ?_
      refine R_nil ?_
      refine T_keep (kc 4 rfl <| kc 7 rfl <| kc 10 rfl <| kc 11 rfl <| kn) rfl ?_
      refine T_seq (T_reg ?_)
      refine R_q _ rfl (v_fieldR (ov rfl) tF129_0) ?_
      refine R_q _ rfl (v_loadS_r (ov rfl) tS4 rfl) ?_
      refine R_nil ?_
      refine T_keep (kc 4 rfl <| kc 10 rfl <| kc 11 rfl <| kc 50 rfl <| kn) rfl ?_
      refine T_if h rfl (fun b50 h => ?_) (fun b50 h => ?_)
      ·
       refine T_keep (kc 10 rfl <| kc 11 rfl <| kn) rfl ?_
       refine T_reg ?_
       refine R_q _ rfl (v_fieldP (ov rfl) rfl rfl tF57_0) ?_
       refine R_w _ _ rfl (w_store (ov rfl) (ov rfl) (cells_scal tS9) rfl rfl rfl (Nat.le_of_ble_eq_true rfl) (cell1_all rfl) rfl) ?_
       refine R_nil ?_
       exact ⟨(api_Face.mk [111, 110] 0 m.Lit Mark), h, Ent.sel [some 0, some 1] (sr 10 rfl (.ptr _ _ _ rfl) <| sr 11 rfl (.ptr _ _ _ rfl) <| sn) (.cons rfl (ro1 (by exact tZ_57.symm) (rld rfl)) <| .cons rfl (ro1 (by exact tZ_57.symm) (rld rfl)) <| .nil) rfl rfl⟩
      ·
       refine T_keep (kc 4 rfl <| kc 10 rfl <| kc 11 rfl <| kn) rfl ?_
       refine T_seq (T_reg ?_)
       refine R_q _ rfl (v_move (ov rfl)) ?_
       refine R_nil ?_
       refine T_keep (kc 10 rfl <| kc 11 rfl <| kc 52 rfl <| kn) rfl ?_
       refine T_if h rfl (fun b52 h => ?_) (fun b52 h => ?_)
       ·
        refine T_keep (kc 10 rfl <| kc 11 rfl <| kn) rfl ?_
        refine T_reg ?_
        refine R_q _ rfl (v_fieldP (ov rfl) rfl rfl tF57_0) ?_
        refine R_w _ _ rfl (w_store (ov rfl) (ov rfl) (cells_scal tS9) rfl rfl rfl (Nat.le_of_ble_eq_true rfl) (cell1_all rfl) rfl) ?_
        refine R_nil ?_
        exact ⟨(api_Face.mk [111, 102, 102] 0 m.Lit Mark), h, Ent.sel [some 0, some 1] (sr 10 rfl (.ptr _ _ _ rfl) <| sr 11 rfl (.ptr _ _ _ rfl) <| sn) (.cons rfl (ro1 (by exact tZ_57.symm) (rld rfl)) <| .cons rfl (ro1 (by exact tZ_57.symm) (rld rfl)) <| .nil) rfl rfl⟩
       ·
        refine T_skip ?_
        exact ⟨(api_Face.mk [45, 45, 45] 0 m.Lit Mark), h, Ent.sel [some 0, some 1] (sr 10 rfl (.ptr _ _ _ rfl) <| sr 11 rfl (.ptr _ _ _ rfl) <| sn) (.cons rfl (ro1 (by exact tZ_57.symm) (rld rfl)) <| .cons rfl (ro1 (by exact tZ_57.symm) (rld rfl)) <| .nil) rfl rfl⟩
     ·
      refine T_keep (kc 1 rfl <| kc 5 rfl <| kc 7 rfl <| kc 10 rfl <| kc 11 rfl <| kc 20 rfl <| kn) rfl ?_
      refine T_seq (T_reg ?_)
      refine R_q _ rfl (v_eql (ov rfl) (ov rfl)) ?_
      refine R_q _ rfl (v_assign (ov rfl)) ?_
      refine R_nil ?_
      refine T_keep (kc 1 rfl <| kc 5 rfl <| kc 7 rfl <| kc 10 rfl <| kc 11 rfl <| kc 20 rfl <| kc 54 rfl <| kn) rfl ?_
      refine T_if h rfl (fun b54 h => ?_) (fun b54 h => ?_)
      ·
       refine T_keep (kc 1 rfl <| kc 5 rfl <| kc 7 rfl <| kc 10 rfl <| kc 11 rfl <| kn) rfl ?_
       refine T_seq (T_reg ?_)
       refine R_q _ rfl (v_fieldR (ov rfl) tF129_1) ?_
       refine R_q _ rfl (v_loadS_r (ov rfl) tS4 rfl) ?_
       refine R_nil ?_
       refine T_keep (kc 1 rfl <| kc 5 rfl <| kc 7 rfl <| kc 10 rfl <| kc 11 rfl <| kc 57 rfl <| kn) rfl ?_
       refine T_if h rfl (fun b57 h => ?_) (fun b57 h => ?_)
       ·
        refine T_keep (kc 1 rfl <| kc 5 rfl <| kc 7 rfl <| kc 10 rfl <| kc 11 rfl <| kn) rfl ?_
        refine T_reg ?_
        refine R_q _ rfl (v_fieldR (ov rfl) tF129_2) ?_
        refine R_q _ rfl (v_loadS_r (ov rfl) tS3 rfl) ?_
        refine R_q _ rfl (v_move (ov rfl)) ?_
        refine R_q _ rfl (v_fieldR (ov rfl) tF55_3) ?_
        refine R_q _ rfl (v_loadS_r (ov rfl) tS3 rfl) ?_
        obtain ⟨y4, h_y4, h⟩ := bnd h
        refine R_q _ rfl (v_call (ok_ref8_digits h_y4) (.cons (ov rfl) (.b rfl) <| .cons (ov rfl) (.b rfl) <| .cons (ov rfl) (.b rfl) <| .nil)) ?_
        refine R_q _ rfl (v_fieldP (ov rfl) rfl rfl tF57_0) ?_
        refine R_w _ _ rfl (w_store (ov rfl) (ov rfl) (cells_scal tS9) rfl rfl rfl (Nat.le_of_ble_eq_true rfl) (cell1_all rfl) rfl) ?_
        refine R_nil ?_
        exact ⟨(api_Face.mk y4 0 false Mark), h, Ent.sel [some 0, some 1] (sr 10 rfl (.ptr _ _ _ rfl) <| sr 11 rfl (.ptr _ _ _ rfl) <| sn) (.cons rfl (ro1 (by exact tZ_57.symm) (rld rfl)) <| .cons rfl (ro1 (by exact tZ_57.symm) (rld rfl)) <| .nil) rfl rfl⟩
       ·
        refine T_skip ?_
        exact ⟨(api_Face.mk [45, 45, 45] 0 false Mark), h, Ent.sel [some 0, some 1] (sr 10 rfl (.ptr _ _ _ rfl) <| sr 11 rfl (.ptr _ _ _ rfl) <| sn) (.cons rfl (ro1 (by exact tZ_57.symm) (rld rfl)) <| .cons rfl (ro1 (by exact tZ_57.symm) (rld rfl)) <| .nil) rfl rfl⟩
      ·
       refine T_keep (kc 1 rfl <| kc 5 rfl <| kc 7 rfl <| kc 10 rfl <| kc 11 rfl <| kc 20 rfl <| kn) rfl ?_
       refine T_seq (T_reg ?_)
       refine R_q _ rfl (v_eql (ov rfl) (ov rfl)) ?_
       refine R_q _ rfl (v_assign (ov rfl)) ?_
       refine R_nil ?_
       refine T_keep (kc 1 rfl <| kc 5 rfl <| kc 7 rfl <| kc 10 rfl <| kc 11 rfl <| kc 20 rfl <| kc 65 rfl <| kn) rfl ?_
       refine T_if h rfl (fun b65 h => ?_) (fun b65 h => ?_)
       ·
        refine T_keep (kc 7 rfl <| kc 10 rfl <| kc 11 rfl <| kn) rfl ?_
        refine T_draw (cw := md0) (by kernel_rfl) ?_
        refine D_q0 0 _ rfl (by kernel_rfl) rfl rfl (v_fieldR (ov rfl) tF129_0) ?_
        refine D_q0 1 _ rfl (by kernel_rfl) rfl rfl (v_loadS_r (ov rfl) tS4 rfl) ?_
        refine D_q0 2 _ rfl (by kernel_rfl) rfl rfl (v_fieldR (ov rfl) tF129_3) ?_
        refine D_q0 3 _ rfl (by kernel_rfl) rfl rfl (v_loadS_r (ov rfl) tS3 rfl) ?_
        obtain ⟨y5, h_y5, h⟩ := bnd h
        refine D_q0 4 _ rfl (by kernel_rfl) rfl rfl (v_call (ok_itoaL h_y5) (.cons (ov rfl) (.b rfl) <| .nil)) ?_
        refine D_q0 5 _ rfl (by kernel_rfl) rfl rfl (v_fieldP (ov rfl) rfl rfl tF57_2) ?_
        refine D_one 6 _ _ rfl (by kernel_rfl) rfl rfl (fun h => by cases h) (fun h => by cases h) (w_store (ov rfl) (ov rfl) (cells_scal tS4) rfl rfl rfl (Nat.le_of_ble_eq_true rfl) (cell1_all rfl) rfl) ?_
        refine D_q0 7 _ rfl (by kernel_rfl) rfl rfl (v_fieldP (ov rfl) rfl rfl tF57_0) ?_
        refine D_one 8 _ _ rfl (by kernel_rfl) rfl rfl (fun h => by cases h) (fun h => by cases h) (w_store (ov rfl) (ov rfl) (cells_scal tS9) rfl rfl rfl (Nat.le_of_ble_eq_true rfl) (cell1_all rfl) rfl) ?_
        refine D_done (by kernel_rfl) ?_
        exact ⟨(api_Face.mk y5 0 m.Lit Mark), h, Ent.sel [some 0, some 1] (sr 10 rfl (.ptr _ _ _ rfl) <| sr 11 rfl (.ptr _ _ _ rfl) <| sn) (.cons rfl (ro1 (by exact tZ_57.symm) (rld rfl)) <| .cons rfl (ro1 (by exact tZ_57.symm) (rld rfl)) <| .nil) rfl rfl⟩
       ·
        refine T_keep (kc 1 rfl <| kc 5 rfl <| kc 7 rfl <| kc 10 rfl <| kc 11 rfl <| kc 20 rfl <| kn) rfl ?_
        refine T_seq (T_reg ?_)
        refine R_q _ rfl (v_eql (ov rfl) (ov rfl)) ?_
        refine R_q _ rfl (v_assign (ov rfl)) ?_
        refine R_nil ?_
        refine T_keep (kc 1 rfl <| kc 5 rfl <| kc 7 rfl <| kc 10 rfl <| kc 11 rfl <| kc 74 rfl <| kn) rfl ?_
        refine T_if h rfl (fun b74 h => ?_) (fun b74 h => ?_)
        ·
         refine T_keep (kc 1 rfl <| kc 5 rfl <| kc 7 rfl <| kc 10 rfl <| kc 11 rfl <| kn) rfl ?_
         refine T_seq (T_reg ?_)
         refine R_q _ rfl (v_fieldR (ov rfl) tF129_4) ?_
         refine R_q _ rfl (v_loadS_r (ov rfl) tS127 rfl) ?_
         refine R_q _ rfl (v_len (slv_sl (ov rfl) tZ_3) tL127 (len_map _ _)) ?_
         refine R_q _ rfl (v_move (ov rfl)) ?_
         refine R_nil ?_
         refine T_block ?_
         obtain ⟨r1, hl1, ho1⟩ := bndL h
         refine T_loopG _ (t2 fun Text i2 => ⟨[(1, .int .i64 den), (5, .rp [.int .i64 i.Kind, .str i.Name, .str i.Track, .int .i64 i.Places, .int .i64 i.Low, .int .i64 i.High, .int .i64 i.Steps, .sl 169 (List.map R169 i.Zones), .int .i64 i.Op, .int .i64 i.N, .bool i.Latch, .int .i64 i.Size] 0), (10, .ptr 0 1 0 0), (11, .ptr 1 1 0 0), (77, .sl 3 (List.map R3 m.Tape)), (78, .int .i64 (m.Tape.length : Int)), (79, .int .i64 i2)], [some ⟨57, [[.str [], .int .i64 0, .bool false, .int .i64 0]]⟩, some ⟨57, [[.str Text, .int .i64 0, .bool false, .int .i64 Mark]]⟩]⟩) _ hl1 (Ent.sel [some 0, some 1] (sd 1 rfl rfl <| sd 5 rfl rfl <| sr 10 rfl (.ptr _ _ _ rfl) <| sr 11 rfl (.ptr _ _ _ rfl) <| sd 77 rfl rfl <| sd 78 rfl rfl <| sd 79 rfl rfl <| sn) (.cons rfl (ro1 (by exact tZ_57.symm) (rld rfl)) <| .cons rfl (ro1 (by exact tZ_57.symm) (rld rfl)) <| .nil) rfl rfl) (fun n1 s1 h => ?_)
         obtain ⟨Text, i2⟩ := s1
         replace h := t2i h
         refine t2T ?_
         unfold ref8_face_L1 at h
         refine T_seq (T_reg ?_)
         refine R_q _ rfl (v_lss (ov rfl) (ov rfl)) ?_
         refine R_nil ?_
         refine T_seq ?_
         refine T_if h rfl (fun b80 h => ?_) (fun b80 h => ?_)
         ·
          refine T_skip ?_
          refine T_seq ?_
          refine T_block ?_
          refine T_keep (kc 1 rfl <| kc 5 rfl <| kc 10 rfl <| kc 11 rfl <| kc 77 rfl <| kc 78 rfl <| kc 79 rfl <| kn) rfl ?_
          refine T_seq (T_reg ?_)
          refine R_q _ rfl (v_move (ov rfl)) ?_
          obtain ⟨x, h_x, h⟩ := bnd h
          refine R_q _ rfl (v_ixSG (ov rfl) (ov rfl) tL127 h_x) ?_
          refine R_q _ rfl (v_loadS_r (ov rfl) tS3 rfl) ?_
          refine R_q _ rfl (v_assign (ov rfl)) ?_
          refine R_q _ rfl (v_assign (ov rfl)) ?_
          refine R_nil ?_
          refine T_keep (kc 1 rfl <| kc 5 rfl <| kc 10 rfl <| kc 11 rfl <| kc 12 rfl <| kc 13 rfl <| kc 77 rfl <| kc 78 rfl <| kc 79 rfl <| kn) rfl ?_
          refine T_seq (T_reg ?_)
          refine R_q _ rfl (v_move (ov rfl)) ?_
          refine R_q _ rfl (v_eql (ov rfl) (ov rfl)) ?_
          refine R_nil ?_
          refine T_keep (kc 1 rfl <| kc 5 rfl <| kc 10 rfl <| kc 11 rfl <| kc 13 rfl <| kc 77 rfl <| kc 78 rfl <| kc 79 rfl <| kc 85 rfl <| kn) rfl ?_
          refine T_if h rfl (fun b85 h => ?_) (fun b85 h => ?_)
          ·
           refine T_keep (kc 1 rfl <| kc 5 rfl <| kc 10 rfl <| kc 11 rfl <| kc 13 rfl <| kc 77 rfl <| kc 78 rfl <| kc 79 rfl <| kn) rfl ?_
           refine T_reg ?_
           refine R_q _ rfl (v_move (ov rfl)) ?_
           refine R_q _ rfl (v_move (ov rfl)) ?_
           refine R_q _ rfl (v_fieldR (ov rfl) tF55_3) ?_
           refine R_q _ rfl (v_loadS_r (ov rfl) tS3 rfl) ?_
           obtain ⟨y6, h_y6, h⟩ := bnd h
           refine R_q _ rfl (v_call (ok_ref8_digits h_y6) (.cons (ov rfl) (.b rfl) <| .cons (ov rfl) (.b rfl) <| .cons (ov rfl) (.b rfl) <| .nil)) ?_
           refine R_q _ rfl (v_fieldP (ov rfl) rfl rfl tF57_0) ?_
           refine R_w _ _ rfl (w_store (ov rfl) (ov rfl) (cells_scal tS9) rfl rfl rfl (Nat.le_of_ble_eq_true rfl) (cell1_all rfl) rfl) ?_
           refine R_nil ?_
           refine T_keep (kc 1 rfl <| kc 5 rfl <| kc 10 rfl <| kc 11 rfl <| kc 77 rfl <| kc 78 rfl <| kc 79 rfl <| kn) rfl ?_
           refine T_reg ?_
           refine R_q _ rfl (v_add (ov rfl) (ov rfl) rfl) ?_
           refine R_q _ rfl (v_move (ov rfl)) ?_
           refine R_nil ?_
           exact ⟨(y6, (i64 (i2 + 1))), h, Ent.sel [some 0, some 1] (sd 1 rfl rfl <| sd 5 rfl rfl <| sr 10 rfl (.ptr _ _ _ rfl) <| sr 11 rfl (.ptr _ _ _ rfl) <| sd 77 rfl rfl <| sd 78 rfl rfl <| sd 79 rfl rfl <| sn) (.cons rfl (ro1 (by exact tZ_57.symm) (rld rfl)) <| .cons rfl (ro1 (by exact tZ_57.symm) (rld rfl)) <| .nil) rfl rfl⟩
          ·
           refine T_keep (kc 1 rfl <| kc 5 rfl <| kc 10 rfl <| kc 11 rfl <| kc 13 rfl <| kc 77 rfl <| kc 78 rfl <| kc 79 rfl <| kn) rfl ?_
           refine T_draw (cw := md0) (by kernel_rfl) ?_
           refine D_q0 0 _ rfl (by kernel_rfl) rfl rfl (v_fieldP (ov rfl) rfl rfl tF57_0) ?_
           refine D_q0 1 _ rfl (by kernel_rfl) rfl rfl (v_loadS (ov rfl) rfl rfl rfl tS9 rfl) ?_
           refine D_q0 2 _ rfl (by kernel_rfl) rfl rfl (v_move (ov rfl)) ?_
           refine D_q0 3 _ rfl (by kernel_rfl) rfl rfl (v_move (ov rfl)) ?_
           refine D_q0 4 _ rfl (by kernel_rfl) rfl rfl (v_fieldR (ov rfl) tF55_3) ?_
           refine D_q0 5 _ rfl (by kernel_rfl) rfl rfl (v_loadS_r (ov rfl) tS3 rfl) ?_
           obtain ⟨y7, h_y7, h⟩ := bnd h
           refine D_q0 6 _ rfl (by kernel_rfl) rfl rfl (v_call (ok_ref8_digits h_y7) (.cons (ov rfl) (.b rfl) <| .cons (ov rfl) (.b rfl) <| .cons (ov rfl) (.b rfl) <| .nil)) ?_
           obtain ⟨s2, h_s2, h⟩ := bnd h
           refine D_q0 7 _ rfl (by kernel_rfl) rfl rfl (v_catG (ov rfl) (ov rfl) h_s2) ?_
           obtain ⟨s3, h_s3, h⟩ := bnd h
           refine D_q0 8 _ rfl (by kernel_rfl) rfl rfl (v_catG (ov rfl) (ov rfl) h_s3) ?_
           refine D_q0 9 _ rfl (by kernel_rfl) rfl rfl (v_fieldP (ov rfl) rfl rfl tF57_0) ?_
           refine D_one 10 _ _ rfl (by kernel_rfl) rfl rfl (fun h => by cases h) (fun h => by cases h) (w_store (ov rfl) (ov rfl) (cells_scal tS9) rfl rfl rfl (Nat.le_of_ble_eq_true rfl) (cell1_all rfl) rfl) ?_
           refine D_done (by kernel_rfl) ?_
           refine T_keep (kc 1 rfl <| kc 5 rfl <| kc 10 rfl <| kc 11 rfl <| kc 77 rfl <| kc 78 rfl <| kc 79 rfl <| kn) rfl ?_
           refine T_reg ?_
           refine R_q _ rfl (v_add (ov rfl) (ov rfl) rfl) ?_
           refine R_q _ rfl (v_move (ov rfl)) ?_
           refine R_nil ?_
           exact ⟨(s3, (i64 (i2 + 1))), h, Ent.sel [some 0, some 1] (sd 1 rfl rfl <| sd 5 rfl rfl <| sr 10 rfl (.ptr _ _ _ rfl) <| sr 11 rfl (.ptr _ _ _ rfl) <| sd 77 rfl rfl <| sd 78 rfl rfl <| sd 79 rfl rfl <| sn) (.cons rfl (ro1 (by exact tZ_57.symm) (rld rfl)) <| .cons rfl (ro1 (by exact tZ_57.symm) (rld rfl)) <| .nil) rfl rfl⟩
         ·
          refine T_exit ?_
          rw [lx h] at ho1
          replace h := ho1
          exact ⟨(api_Face.mk Text 0 false Mark), h, Ent.sel [some 0, some 1] (sr 10 rfl (.ptr _ _ _ rfl) <| sr 11 rfl (.ptr _ _ _ rfl) <| sn) (.cons rfl (ro1 (by exact tZ_57.symm) (rld rfl)) <| .cons rfl (ro1 (by exact tZ_57.symm) (rld rfl)) <| .nil) rfl rfl⟩
        ·
         refine T_skip ?_
         exact ⟨(api_Face.mk [45, 45, 45] 0 false Mark), h, Ent.sel [some 0, some 1] (sr 10 rfl (.ptr _ _ _ rfl) <| sr 11 rfl (.ptr _ _ _ rfl) <| sn) (.cons rfl (ro1 (by exact tZ_57.symm) (rld rfl)) <| .cons rfl (ro1 (by exact tZ_57.symm) (rld rfl)) <| .nil) rfl rfl⟩
  ·
   obtain ⟨f, rfl⟩ : ∃ x, x = j := ⟨_, rfl⟩
   replace h := t1i h
   refine t1T ?_
   refine T_seq (T_reg ?_)
   refine R_q _ rfl (v_loadA (ov rfl) rfl rfl rfl tA57 rfl rfl) ?_
   refine R_w _ _ rfl (w_store (ov rfl) (ov rfl) (cells_agg tA57 rfl) rfl rfl rfl (Nat.le_of_ble_eq_true rfl) (cell1_all rfl) rfl) ?_
   refine R_nil ?_
   obtain rfl := rt (v := f) h
   refine T_ret (retq ?_ (.one (.agg rfl rfl rfl rfl tA57 rfl rfl (pwB rfl))))
   rfl

theorem ok_ref8_faces {p : api_Panel} {l : List api_Track} {s : api_PanelState} {r : (List api_Face)} (h : ref8_faces p l s = some r) :
  CSpec Tryz.prog gl0 75 [.agg [.sl 55 (List.map R55 p.Instruments)], .sl 26 (List.map R26 l), .agg [.int .i64 s.Frame, .sl 129 (List.map R129 s.Memos)]] (.sl 57 (List.map R57 r)) := by
 unfold ref8_faces at h
 replace h := bnd0 h
 refine spec_of (by kernel_rfl) Tryz.func75 rfl rfl ?_
 intro w0 A
 refine T_seq (T_reg ?_)
 refine R_q _ rfl (v_boxD (cva (ov rfl)) rfl tZ_41 rfl) ?_
 refine R_q _ rfl (v_boxD (cva (ov rfl)) rfl tZ_65 rfl) ?_
 refine R_q _ rfl (v_assign (ov rfl)) ?_
 refine R_nil ?_
 refine T_keep (kc 1 rfl <| kc 3 rfl <| kc 5 rfl <| kn) rfl ?_
 refine T_seq (T_reg ?_)
 refine R_q _ rfl (v_assign (ov rfl)) ?_
 refine R_nil ?_
 refine T_joinG id (t1 fun out => ⟨[(7, .own 0 out.length)], [some ⟨57, List.map R57 out⟩]⟩) h (fun h => ?_) (fun j h => ?_)
 ·
  refine T_seq (T_reg ?_)
  refine R_q _ rfl (v_fieldR (ov rfl) tF41_0) ?_
  refine R_q _ rfl (v_loadS_r (ov rfl) tS39 rfl) ?_
  refine R_q _ rfl (v_len (slv_sl (ov rfl) tZ_55) tL39 (len_map _ _)) ?_
  refine R_q _ rfl (v_move (ov rfl)) ?_
  refine R_nil ?_
  refine T_block ?_
  obtain ⟨r1, hl1, ho1⟩ := bndL h
  refine T_loopG _ (t2 fun out2 i => ⟨[(1, .sl 26 (List.map R26 l)), (5, .rp [.int .i64 s.Frame, .sl 129 (List.map R129 s.Memos)] 0), (7, .own 0 out2.length), (15, .sl 55 (List.map R55 p.Instruments)), (16, .int .i64 (p.Instruments.length : Int)), (17, .int .i64 i)], [some ⟨57, List.map R57 out2⟩]⟩) _ hl1 (Ent.sel [none] (sd 1 rfl rfl <| sd 5 rfl rfl <| sr 7 rfl (.row rfl) <| sd 15 rfl rfl <| sd 16 rfl rfl <| sd 17 rfl rfl <| sn) (.row 57 <| .nil) rfl rfl) (fun n1 s1 h => ?_)
  obtain ⟨out2, i⟩ := s1
  replace h := t2i h
  refine t2T ?_
  unfold ref8_faces_L1 at h
  refine T_seq (T_reg ?_)
  refine R_q _ rfl (v_lss (ov rfl) (ov rfl)) ?_
  refine R_nil ?_
  refine T_seq ?_
  refine T_if h rfl (fun b18 h => ?_) (fun b18 h => ?_)
  ·
   refine T_skip ?_
   refine T_seq ?_
   refine T_block ?_
   refine T_keep (kc 1 rfl <| kc 5 rfl <| kc 7 rfl <| kc 15 rfl <| kc 16 rfl <| kc 17 rfl <| kn) rfl ?_
   refine T_seq (T_reg ?_)
   refine R_q _ rfl (v_move (ov rfl)) ?_
   obtain ⟨x, h_x, h⟩ := bnd h
   refine R_q _ rfl (v_ixSG (ov rfl) (ov rfl) tL39 h_x) ?_
   refine R_q _ rfl (v_loadA_r (ov rfl) tA55 rfl rfl) ?_
   refine R_w _ _ rfl (w_alloc (row := [_, _, _, _, _, _, _, _, _, _, _, _]) 1 rfl tZ55 rfl tZ_55) ?_
   refine R_q _ rfl (v_assign (ov rfl)) ?_
   refine R_w _ _ rfl (w_store (ov rfl) (ov rfl) (cells_agg tA55 rfl) rfl rfl rfl (Nat.le_of_ble_eq_true rfl) (cell1_all rfl) rfl) ?_
   refine R_nil ?_
   refine T_keep (kc 1 rfl <| kc 5 rfl <| kc 7 rfl <| kc 8 rfl <| kc 9 rfl <| kc 15 rfl <| kc 16 rfl <| kc 17 rfl <| kn) rfl ?_
   refine T_seq (T_reg ?_)
   refine R_q _ rfl (v_move (ov rfl)) ?_
   refine R_q _ rfl (v_fieldP (ov rfl) rfl rfl tF55_2) ?_
   refine R_q _ rfl (v_loadS (ov rfl) rfl rfl rfl tS9 rfl) ?_
   obtain ⟨y, h_y, h⟩ := bnd h
   refine R_q _ rfl (v_call (ok_ref8_track h_y) (.cons (ov rfl) (.b rfl) <| .cons (ov rfl) (.b rfl) <| .nil)) ?_
   refine R_q _ rfl (v_move (ov rfl)) ?_
   refine R_q _ rfl (v_extract (ov rfl) rfl) ?_
   refine R_q _ rfl (v_extract (ov rfl) rfl) ?_
   refine R_w _ _ rfl (w_alloc (row := [_, _, _, _]) 2 rfl tZ26 rfl tZ_26) ?_
   refine R_w _ _ rfl (w_store (ov rfl) (ov rfl) (cells_agg tA26 rfl) rfl rfl rfl (Nat.le_of_ble_eq_true rfl) (cell1_all rfl) rfl) ?_
   refine R_q _ rfl (v_assign (ov rfl)) ?_
   refine R_nil ?_
   refine T_keep (kc 1 rfl <| kc 5 rfl <| kc 7 rfl <| kc 8 rfl <| kc 9 rfl <| kc 10 rfl <| kc 15 rfl <| kc 16 rfl <| kc 17 rfl <| kn) rfl ?_
   refine T_seq (T_reg ?_)
   refine R_q _ rfl (v_build (ys := [_, _, _]) tPL28 tHA28 tZ28 (.nil) rfl) ?_
   refine R_w _ _ rfl (w_alloc (row := [_, _, _]) 3 rfl tZ28 rfl tZ_28) ?_
   refine R_w _ _ rfl (w_store (ov rfl) (ov rfl) (cells_agg tA28 rfl) rfl rfl rfl (Nat.le_of_ble_eq_true rfl) (cell1_all rfl) rfl) ?_
   refine R_q _ rfl (v_assign (ov rfl)) ?_
   refine R_nil ?_
   refine T_joinG id (t2 fun x2 known => ⟨[(1, .sl 26 (List.map R26 l)), (5, .rp [.int .i64 s.Frame, .sl 129 (List.map R129 s.Memos)] 0), (7, .own 0 out2.length), (8, .int .i64 i), (9, .ptr 1 1 0 0), (10, .ptr 2 1 0 0), (12, .ptr 3 1 0 0), (13, .bool known), (15, .sl 55 (List.map R55 p.Instruments)), (16, .int .i64 (p.Instruments.length : Int)), (17, .int .i64 i)], [some ⟨57, List.map R57 out2⟩, some ⟨55, [[.int .i64 x.Kind, .str x.Name, .str x.Track, .int .i64 x.Places, .int .i64 x.Low, .int .i64 x.High, .int .i64 x.Steps, .sl 169 (List.map R169 x.Zones), .int .i64 x.Op, .int .i64 x.N, .bool x.Latch, .int .i64 x.Size]]⟩, some ⟨26, [[.str y.1.Name, .int .i64 y.1.Series.Den, .sl 28 (List.map R28 y.1.Series.Samples), .int .i64 y.1.Long]]⟩, some ⟨28, [[.int .i64 x2.At, .int .i64 x2.N, .int .i64 x2.Mark]]⟩]⟩) h (fun h => ?_) (fun j h => ?_)
   ·
    refine T_keep (kc 1 rfl <| kc 5 rfl <| kc 7 rfl <| kc 8 rfl <| kc 9 rfl <| kc 10 rfl <| kc 12 rfl <| kc 13 rfl <| kc 15 rfl <| kc 16 rfl <| kc 17 rfl <| kn) rfl ?_
    refine T_seq (T_reg ?_)
    refine R_q _ rfl (v_fieldR (ov rfl) tF65_0) ?_
    refine R_q _ rfl (v_loadS_r (ov rfl) tS3 rfl) ?_
    refine R_q _ rfl (v_geq (ov rfl) (ov rfl)) ?_
    refine R_nil ?_
    refine T_keep (kc 1 rfl <| kc 5 rfl <| kc 7 rfl <| kc 8 rfl <| kc 9 rfl <| kc 10 rfl <| kc 12 rfl <| kc 13 rfl <| kc 15 rfl <| kc 16 rfl <| kc 17 rfl <| kc 32 rfl <| kn) rfl ?_
    refine T_if h rfl (fun b32 h => ?_) (fun b32 h => ?_)
    ·
     refine T_keep (kc 1 rfl <| kc 5 rfl <| kc 7 rfl <| kc 8 rfl <| kc 9 rfl <| kc 10 rfl <| kc 12 rfl <| kc 13 rfl <| kc 15 rfl <| kc 16 rfl <| kc 17 rfl <| kn) rfl ?_
     refine T_reg ?_
     refine R_q _ rfl (v_loadA (ov rfl) rfl rfl rfl tA26 rfl rfl) ?_
     refine R_q _ rfl (v_fieldR (ov rfl) tF65_0) ?_
     refine R_q _ rfl (v_loadS_r (ov rfl) tS3 rfl) ?_
     obtain ⟨y2, h_y2, h⟩ := bnd h
     refine R_q _ rfl (v_call (ok_ref8_valueAt h_y2) (.cons (ov rfl) (.aggB rfl) <| .cons (ov rfl) (.b rfl) <| .nil)) ?_
     refine R_q _ rfl (v_move (ov rfl)) ?_
     refine R_q _ rfl (v_extract (ov rfl) rfl) ?_
     refine R_q _ rfl (v_extract (ov rfl) rfl) ?_
     refine R_w _ _ rfl (w_store (ov rfl) (ov rfl) (cells_agg tA28 rfl) rfl rfl rfl (Nat.le_of_ble_eq_true rfl) (cell1_all rfl) rfl) ?_
     refine R_q _ rfl (v_assign (ov rfl)) ?_
     refine R_nil ?_
     exact ⟨(y2.1, y2.2), h, Ent.sel [some 0, some 1, some 2, some 3] (sd 1 rfl rfl <| sd 5 rfl rfl <| sr 7 rfl (.own _ rfl) <| sd 8 rfl rfl <| sr 9 rfl (.ptr _ _ _ rfl) <| sr 10 rfl (.ptr _ _ _ rfl) <| sr 12 rfl (.ptr _ _ _ rfl) <| sd 13 rfl rfl <| sd 15 rfl rfl <| sd 16 rfl rfl <| sd 17 rfl rfl <| sn) (.cons rfl (roM D57) <| .cons rfl (ro1 (by exact tZ_55.symm) (rld rfl)) <| .cons rfl (ro1 (by exact tZ_26.symm) (rld rfl)) <| .cons rfl (ro1 (by exact tZ_28.symm) (rld rfl)) <| .nil) rfl rfl⟩
    ·
     refine T_skip ?_
     exact ⟨((api_Sample.mk 0 0 0), false), h, Ent.sel [some 0, some 1, some 2, some 3] (sd 1 rfl rfl <| sd 5 rfl rfl <| sr 7 rfl (.own _ rfl) <| sd 8 rfl rfl <| sr 9 rfl (.ptr _ _ _ rfl) <| sr 10 rfl (.ptr _ _ _ rfl) <| sr 12 rfl (.ptr _ _ _ rfl) <| sd 13 rfl rfl <| sd 15 rfl rfl <| sd 16 rfl rfl <| sd 17 rfl rfl <| sn) (.cons rfl (roM D57) <| .cons rfl (ro1 (by exact tZ_55.symm) (rld rfl)) <| .cons rfl (ro1 (by exact tZ_26.symm) (rld rfl)) <| .cons rfl (ro1 (by exact tZ_28.symm) (rld rfl)) <| .nil) rfl rfl⟩
   ·
    obtain ⟨x2, known⟩ := j
    replace h := t2i h
    refine t2T ?_
    refine T_draw (cw := md0) (by kernel_rfl) ?_
    refine D_q0 0 _ rfl (by kernel_rfl) rfl rfl (v_move (ov rfl)) ?_
    refine D_q0 1 _ rfl (by kernel_rfl) rfl rfl (v_loadA (ov rfl) rfl rfl rfl tA55 rfl rfl) ?_
    refine D_q0 2 _ rfl (by kernel_rfl) rfl rfl (v_fieldP (ov rfl) rfl rfl tF26_1) ?_
    refine D_q0 3 _ rfl (by kernel_rfl) rfl rfl (v_fieldP (ov rfl) rfl rfl tF24_0) ?_
    refine D_q0 4 _ rfl (by kernel_rfl) rfl rfl (v_loadS (ov rfl) rfl rfl rfl tS3 rfl) ?_
    refine D_q0 5 _ rfl (by kernel_rfl) rfl rfl (v_fieldR (ov rfl) tF65_1) ?_
    refine D_q0 6 _ rfl (by kernel_rfl) rfl rfl (v_loadS_r (ov rfl) tS63 rfl) ?_
    refine D_q0 7 _ rfl (by kernel_rfl) rfl rfl (v_move (ov rfl)) ?_
    obtain ⟨x3, h_x3, h⟩ := bnd h
    refine D_q0 8 _ rfl (by kernel_rfl) rfl rfl (v_ixSG (ov rfl) (ov rfl) tL63 h_x3) ?_
    refine D_q0 9 _ rfl (by kernel_rfl) rfl rfl (v_loadA_r (ov rfl) tA129 rfl rfl) ?_
    refine D_q0 10 _ rfl (by kernel_rfl) rfl rfl (v_loadA (ov rfl) rfl rfl rfl tA28 rfl rfl) ?_
    refine D_q0 11 _ rfl (by kernel_rfl) rfl rfl (v_move (ov rfl)) ?_
    obtain ⟨y3, h_y3, h⟩ := bnd h
    refine D_q0 12 _ rfl (by kernel_rfl) rfl rfl (v_call (ok_ref8_face h_y3) (.cons (ov rfl) (.aggB rfl) <| .cons (ov rfl) (.b rfl) <| .cons (ov rfl) (.aggB rfl) <| .cons (ov rfl) (.aggB rfl) <| .cons (ov rfl) (.b rfl) <| .nil)) ?_
    refine D_q0 13 (.sl 57 (List.map R57 ([y3] : List api_Face))) rfl (by kernel_rfl) rfl rfl (v_lit tL51 (.cons (cva (ov rfl)) rfl (pwD rfl) <| .nil) rfl rfl) ?_
    obtain ⟨l2, h_l2, h⟩ := bnd h
    refine D_one 14 _ _ rfl (by kernel_rfl) rfl rfl (fun h => by cases h) (fun h => by cases h) (w_appendG (ov rfl) (slv_sl (ov rfl) tZ_57) tL51 rfl rfl rfl (fun _ => cell1_all rfl) rfl h_l2) ?_
    refine D_q0 15 _ rfl (by kernel_rfl) rfl rfl (v_assign (ov rfl)) ?_
    refine D_done (by kernel_rfl) ?_
    refine T_keep (kc 1 rfl <| kc 5 rfl <| kc 7 rfl <| kc 15 rfl <| kc 16 rfl <| kc 17 rfl <| kn) rfl ?_
    refine T_reg ?_
    refine R_q _ rfl (v_add (ov rfl) (ov rfl) rfl) ?_
    refine R_q _ rfl (v_move (ov rfl)) ?_
    refine R_nil ?_
    exact ⟨(l2, (i64 (i + 1))), h, Ent.sel [some 0] (sd 1 rfl rfl <| sd 5 rfl rfl <| sr 7 rfl (.own _ rfl) <| sd 15 rfl rfl <| sd 16 rfl rfl <| sd 17 rfl rfl <| sn) (.cons rfl (roM D57) <| .nil) rfl rfl⟩
  ·
   refine T_exit ?_
   rw [lx h] at ho1
   replace h := ho1
   exact ⟨out2, h, Ent.sel [some 0] (sr 7 rfl (.own _ rfl) <| sn) (.cons rfl (roM D57) <| .nil) rfl rfl⟩
 ·
  obtain ⟨out, rfl⟩ : ∃ x, x = j := ⟨_, rfl⟩
  replace h := t1i h
  refine t1T ?_
  refine T_seq (T_reg ?_)
  refine R_q _ rfl (v_move (ov rfl)) ?_
  refine R_q _ rfl (v_assign (ov rfl)) ?_
  refine R_nil ?_
  obtain rfl := rt (v := out) h
  refine T_ret (retq ?_ (.one (.tmp rfl (View.ownM rfl rfl D57))))
  rfl

theorem ok_ref8_Differ {p : api_Panel} {a : List api_Track} {b : List api_Track} {to : Int} {r : Int × Int × Bool × Int} (h : ref8_Differ p a b to = some r) :
  CSpec Tryz.prog gl0 21 [.agg [.sl 55 (List.map R55 p.Instruments)], .sl 26 (List.map R26 a), .sl 26 (List.map R26 b), .int .i64 to] (.tuple [.int .i64 r.1, .int .i64 r.2.1, .bool r.2.2.1, .int .i64 r.2.2.2]) := by
 unfold ref8_Differ at h
 replace h := bnd0 h
 refine spec_of (by kernel_rfl) Tryz.func21 rfl rfl ?_
 intro w0 A
 refine T_seq (T_reg ?_)
 refine R_q _ rfl (v_boxD (cva (ov rfl)) rfl tZ_41 rfl) ?_
 refine R_q _ rfl (v_assign (ov rfl)) ?_
 refine R_q _ rfl (v_assign (ov rfl)) ?_
 refine R_q _ rfl (v_assign (ov rfl)) ?_
 refine R_q _ rfl (v_assign (ov rfl)) ?_
 refine R_nil ?_
 refine T_joinG (fun j => (.inr j)) (t0 ⟨[(1, .sl 26 (List.map R26 a)), (2, .sl 26 (List.map R26 b)), (3, .int .i64 to), (4, .rp [.sl 55 (List.map R55 p.Instruments)] 0)], []⟩) h (fun h => ?_) (fun j h => ?_)
 ·
  refine T_keep (kc 1 rfl <| kc 2 rfl <| kc 3 rfl <| kc 4 rfl <| kn) rfl ?_
  refine T_seq (T_reg ?_)
  refine R_q _ rfl (v_move (ov rfl)) ?_
  refine R_q _ rfl (v_move (ov rfl)) ?_
  refine R_q (.sl 42 (List.map R42 ([a, b] : List (List api_Track)))) rfl (v_lit tL104 (.cons (cvs (ov rfl) (cell1_b rfl)) rfl (.cons (.b rfl) .nil) <| .cons (cvs (ov rfl) (cell1_b rfl)) rfl (.cons (.b rfl) .nil) <| .nil) rfl rfl) ?_
  refine R_q _ rfl (v_len (slv_sl (ov rfl) tZ_42) tL104 (len_map _ _)) ?_
  refine R_q _ rfl (v_move (ov rfl)) ?_
  refine R_nil ?_
  refine T_block ?_
  obtain ⟨r1, hl1, ho1⟩ := bndL h
  refine T_loopG _ (t1 fun i => ⟨[(1, .sl 26 (List.map R26 a)), (2, .sl 26 (List.map R26 b)), (3, .int .i64 to), (4, .rp [.sl 55 (List.map R55 p.Instruments)] 0), (25, .sl 42 (List.map R42 ([a, b] : List (List api_Track)))), (26, .int .i64 (([a, b] : List (List api_Track)).length : Int)), (27, .int .i64 i)], []⟩) _ hl1 (Ent.sel [] (sd 1 rfl rfl <| sd 2 rfl rfl <| sd 3 rfl rfl <| sd 4 rfl rfl <| sd 25 rfl rfl <| sd 26 rfl rfl <| sd 27 rfl rfl <| sn) (.nil) rfl rfl) (fun n1 s1 h => ?_)
  obtain ⟨i, rfl⟩ : ∃ x, x = s1 := ⟨_, rfl⟩
  replace h := t1i h
  refine t1T ?_
  unfold ref8_Differ_L1 at h
  refine T_seq (T_reg ?_)
  refine R_q _ rfl (v_lss (ov rfl) (ov rfl)) ?_
  refine R_nil ?_
  refine T_seq ?_
  refine T_if h rfl (fun b28 h => ?_) (fun b28 h => ?_)
  ·
   refine T_skip ?_
   refine T_seq ?_
   refine T_block ?_
   refine T_keep (kc 1 rfl <| kc 2 rfl <| kc 3 rfl <| kc 4 rfl <| kc 25 rfl <| kc 26 rfl <| kc 27 rfl <| kn) rfl ?_
   refine T_seq (T_reg ?_)
   obtain ⟨x, h_x, h⟩ := bnd h
   refine R_q _ rfl (v_ixSG (ov rfl) (ov rfl) tL104 h_x) ?_
   refine R_q _ rfl (v_loadS_r (ov rfl) tS42 rfl) ?_
   refine R_q _ rfl (v_assign (ov rfl)) ?_
   refine R_nil ?_
   refine T_keep (kc 1 rfl <| kc 2 rfl <| kc 3 rfl <| kc 4 rfl <| kc 13 rfl <| kc 25 rfl <| kc 26 rfl <| kc 27 rfl <| kn) rfl ?_
   refine T_seq (T_reg ?_)
   refine R_q _ rfl (v_loadA_r (ov rfl) tA41 rfl rfl) ?_
   refine R_q _ rfl (v_move (ov rfl)) ?_
   obtain ⟨y, h_y, h⟩ := bnd h
   refine R_q _ rfl (v_call (ok_ref8_Fault h_y) (.cons (ov rfl) (.aggB rfl) <| .cons (ov rfl) (.b rfl) <| .nil)) ?_
   refine R_q _ rfl (v_assign (ov rfl)) ?_
   refine R_nil ?_
   refine T_keep (kc 1 rfl <| kc 2 rfl <| kc 3 rfl <| kc 4 rfl <| kc 14 rfl <| kc 25 rfl <| kc 26 rfl <| kc 27 rfl <| kn) rfl ?_
   refine T_seq (T_reg ?_)
   refine R_q _ rfl (v_move (ov rfl)) ?_
   refine R_q _ rfl (v_neq (ov rfl) (ov rfl)) ?_
   refine R_nil ?_
   refine T_keep (kc 1 rfl <| kc 2 rfl <| kc 3 rfl <| kc 4 rfl <| kc 14 rfl <| kc 25 rfl <| kc 26 rfl <| kc 27 rfl <| kc 35 rfl <| kn) rfl ?_
   refine T_if h rfl (fun b35 h => ?_) (fun b35 h => ?_)
   ·
    refine T_keep (kc 14 rfl <| kn) rfl ?_
    refine T_seq (T_reg ?_)
    refine R_q _ rfl (v_move (ov rfl)) ?_
    refine R_q _ rfl (v_assign (ov rfl)) ?_
    refine R_q _ rfl (v_assign (ov rfl)) ?_
    refine R_q _ rfl (v_assign (ov rfl)) ?_
    refine R_q _ rfl (v_assign (ov rfl)) ?_
    refine R_nil ?_
    rw [lx h] at ho1
    replace h := ho1
    obtain rfl := rt (v := (0, 0, false, y)) h
    refine T_ret (retq ?_ (.four (.tmp rfl (Dat.view (.b rfl))) (.tmp rfl (Dat.view (.b rfl))) (.tmp rfl (Dat.view (.b rfl))) (.tmp rfl (Dat.view (.b rfl)))))
    rfl
   ·
    refine T_skip ?_
    refine T_keep (kc 1 rfl <| kc 2 rfl <| kc 3 rfl <| kc 4 rfl <| kc 25 rfl <| kc 26 rfl <| kc 27 rfl <| kn) rfl ?_
    refine T_reg ?_
    refine R_q _ rfl (v_add (ov rfl) (ov rfl) rfl) ?_
    refine R_q _ rfl (v_move (ov rfl)) ?_
    refine R_nil ?_
    exact ⟨(i64 (i + 1)), h, Ent.sel [] (sd 1 rfl rfl <| sd 2 rfl rfl <| sd 3 rfl rfl <| sd 4 rfl rfl <| sd 25 rfl rfl <| sd 26 rfl rfl <| sd 27 rfl rfl <| sn) (.nil) rfl rfl⟩
  ·
   refine T_exit ?_
   rw [lx h] at ho1
   replace h := ho1
   exact ⟨(), h, Ent.sel [] (sd 1 rfl rfl <| sd 2 rfl rfl <| sd 3 rfl rfl <| sd 4 rfl rfl <| sn) (.nil) rfl rfl⟩
 ·
  replace h := elr h
  cases j
  replace h := t0i h
  refine t0T ?_
  refine T_seq ?_
  refine T_seq (T_reg ?_)
  refine R_q _ rfl (v_move (ov rfl)) ?_
  obtain ⟨y2, h_y2, h⟩ := bnd h
  refine R_q _ rfl (v_call (ok_ref8_outside h_y2) (.cons (ov rfl) (.b rfl) <| .cons (ov rfl) (.b rfl) <| .cons (ov rfl) (.b rfl) <| .nil)) ?_
  refine R_nil ?_
  refine T_keep (kc 1 rfl <| kc 2 rfl <| kc 3 rfl <| kc 4 rfl <| kc 39 rfl <| kn) rfl ?_
  refine T_if h rfl (fun b39 h => ?_) (fun b39 h => ?_)
  ·
   refine T_keep (kn) rfl ?_
   refine T_seq (T_reg ?_)
   refine R_q _ rfl (v_assign (ov rfl)) ?_
   refine R_q _ rfl (v_assign (ov rfl)) ?_
   refine R_q _ rfl (v_assign (ov rfl)) ?_
   refine R_q _ rfl (v_assign (ov rfl)) ?_
   refine R_nil ?_
   obtain rfl := rt (v := (0, 0, false, 9)) h
   refine T_ret (retq ?_ (.four (.tmp rfl (Dat.view (.b rfl))) (.tmp rfl (Dat.view (.b rfl))) (.tmp rfl (Dat.view (.b rfl))) (.tmp rfl (Dat.view (.b rfl)))))
   rfl
  ·
   refine T_skip ?_
   refine T_keep (kc 1 rfl <| kc 2 rfl <| kc 3 rfl <| kc 4 rfl <| kn) rfl ?_
   refine T_seq (T_reg ?_)
   refine R_q _ rfl (v_loadA_r (ov rfl) tA41 rfl rfl) ?_
   obtain ⟨y3, h_y3, h⟩ := bnd h
   refine R_q _ rfl (v_call (ok_ref8_First h_y3) (.cons (ov rfl) (.aggB rfl) <| .nil)) ?_
   refine R_q _ rfl (v_move (ov rfl)) ?_
   refine R_q _ rfl (v_extract (ov rfl) rfl) ?_
   refine R_q _ rfl (v_extract (ov rfl) rfl) ?_
   refine R_w _ _ rfl (w_alloc (row := [_, _]) 0 rfl tZ65 rfl tZ_65) ?_
   refine R_w _ _ rfl (w_store (ov rfl) (ov rfl) (cells_agg tA65 rfl) rfl rfl rfl (Nat.le_of_ble_eq_true rfl) (cell1_all rfl) rfl) ?_
   refine R_q _ rfl (v_assign (ov rfl)) ?_
   refine R_nil ?_
   refine T_keep (kc 1 rfl <| kc 2 rfl <| kc 3 rfl <| kc 4 rfl <| kc 15 rfl <| kn) rfl ?_
   refine T_seq (T_reg ?_)
   refine R_q _ rfl (v_loadA_r (ov rfl) tA41 rfl rfl) ?_
   obtain ⟨y4, h_y4, h⟩ := bnd h
   refine R_q _ rfl (v_call (ok_ref8_First h_y4) (.cons (ov rfl) (.aggB rfl) <| .nil)) ?_
   refine R_q _ rfl (v_move (ov rfl)) ?_
   refine R_q _ rfl (v_extract (ov rfl) rfl) ?_
   refine R_q _ rfl (v_extract (ov rfl) rfl) ?_
   refine R_w _ _ rfl (w_alloc (row := [_, _]) 1 rfl tZ65 rfl tZ_65) ?_
   refine R_w _ _ rfl (w_store (ov rfl) (ov rfl) (cells_agg tA65 rfl) rfl rfl rfl (Nat.le_of_ble_eq_true rfl) (cell1_all rfl) rfl) ?_
   refine R_q _ rfl (v_assign (ov rfl)) ?_
   refine R_nil ?_
   refine T_joinG (fun j => (.inr j)) (t0 ⟨[], []⟩) h (fun h => ?_) (fun j h => ?_)
   ·
    refine T_keep (kc 1 rfl <| kc 2 rfl <| kc 3 rfl <| kc 4 rfl <| kc 15 rfl <| kc 17 rfl <| kn) rfl ?_
    refine T_seq (T_reg ?_)
    refine R_q _ rfl (v_assign (ov rfl)) ?_
    refine R_nil ?_
    refine T_block ?_
    obtain ⟨r2, hl2, ho2⟩ := bndL h
    refine T_loopG _ (t3 fun s t n => ⟨[(1, .sl 26 (List.map R26 a)), (2, .sl 26 (List.map R26 b)), (3, .int .i64 to), (4, .rp [.sl 55 (List.map R55 p.Instruments)] 0), (15, .ptr 0 1 0 0), (17, .ptr 1 1 0 0), (19, .int .i64 n)], [some ⟨65, [[.int .i64 s.Frame, .sl 129 (List.map R129 s.Memos)]]⟩, some ⟨65, [[.int .i64 t.Frame, .sl 129 (List.map R129 t.Memos)]]⟩]⟩) _ hl2 (Ent.sel [some 0, some 1] (sd 1 rfl rfl <| sd 2 rfl rfl <| sd 3 rfl rfl <| sd 4 rfl rfl <| sr 15 rfl (.ptr _ _ _ rfl) <| sr 17 rfl (.ptr _ _ _ rfl) <| sd 19 rfl rfl <| sn) (.cons rfl (ro1 (by exact tZ_65.symm) (rld rfl)) <| .cons rfl (ro1 (by exact tZ_65.symm) (rld rfl)) <| .nil) rfl rfl) (fun n2 s2 h => ?_)
    obtain ⟨s, t, n⟩ := s2
    replace h := t3i h
    refine t3T ?_
    unfold ref8_Differ_L2 at h
    refine T_seq ?_
    refine T_seq (T_reg ?_)
    refine R_q _ rfl (v_move (ov rfl)) ?_
    refine R_q _ rfl (v_move (ov rfl)) ?_
    refine R_q _ rfl (v_leq (ov rfl) (ov rfl)) ?_
    refine R_nil ?_
    refine T_keep (kc 1 rfl <| kc 2 rfl <| kc 3 rfl <| kc 4 rfl <| kc 15 rfl <| kc 17 rfl <| kc 19 rfl <| kc 52 rfl <| kn) rfl ?_
    refine T_if h rfl (fun b52 h => ?_) (fun b52 h => ?_)
    ·
     refine T_skip ?_
     refine T_joinG (fun j => (.inr j)) (t2 fun s2 t2 => ⟨[(1, .sl 26 (List.map R26 a)), (2, .sl 26 (List.map R26 b)), (3, .int .i64 to), (4, .rp [.sl 55 (List.map R55 p.Instruments)] 0), (15, .ptr 0 1 0 0), (17, .ptr 1 1 0 0), (19, .int .i64 n)], [some ⟨65, [[.int .i64 s2.Frame, .sl 129 (List.map R129 s2.Memos)]]⟩, some ⟨65, [[.int .i64 t2.Frame, .sl 129 (List.map R129 t2.Memos)]]⟩]⟩) h (fun h => ?_) (fun j h => ?_)
     ·
      refine T_block ?_
      refine T_keep (kc 1 rfl <| kc 2 rfl <| kc 3 rfl <| kc 4 rfl <| kc 15 rfl <| kc 17 rfl <| kc 19 rfl <| kn) rfl ?_
      refine T_seq (T_draw (cw := md0) (by kernel_rfl) ?_)
      refine D_q0 0 _ rfl (by kernel_rfl) rfl rfl (v_loadA_r (ov rfl) tA41 rfl rfl) ?_
      refine D_q0 1 _ rfl (by kernel_rfl) rfl rfl (v_move (ov rfl)) ?_
      refine D_q0 2 _ rfl (by kernel_rfl) rfl rfl (v_loadA (ov rfl) rfl rfl rfl tA65 rfl rfl) ?_
      obtain ⟨y5, h_y5, h⟩ := bnd h
      refine D_q0 3 _ rfl (by kernel_rfl) rfl rfl (v_call (ok_ref8_advance h_y5) (.cons (ov rfl) (.aggB rfl) <| .cons (ov rfl) (.b rfl) <| .cons (ov rfl) (.aggB rfl) <| .nil)) ?_
      refine D_q0 4 _ rfl (by kernel_rfl) rfl rfl (v_loadA_r (ov rfl) tA41 rfl rfl) ?_
      refine D_q0 5 _ rfl (by kernel_rfl) rfl rfl (v_move (ov rfl)) ?_
      refine D_q0 6 _ rfl (by kernel_rfl) rfl rfl (v_loadA (ov rfl) rfl rfl rfl tA65 rfl rfl) ?_
      obtain ⟨y6, h_y6, h⟩ := bnd h
      refine D_q0 7 _ rfl (by kernel_rfl) rfl rfl (v_call (ok_ref8_advance h_y6) (.cons (ov rfl) (.aggB rfl) <| .cons (ov rfl) (.b rfl) <| .cons (ov rfl) (.aggB rfl) <| .nil)) ?_
      refine D_one 8 _ _ rfl (by kernel_rfl) rfl rfl (fun h => by cases h) (fun h => by cases h) (w_store (ov rfl) (ov rfl) (cells_agg tA65 rfl) rfl rfl rfl (Nat.le_of_ble_eq_true rfl) (cell1_all rfl) rfl) ?_
      refine D_one 9 _ _ rfl (by kernel_rfl) rfl rfl (fun h => by cases h) (fun h => by cases h) (w_store (ov rfl) (ov rfl) (cells_agg tA65 rfl) rfl rfl rfl (Nat.le_of_ble_eq_true rfl) (cell1_all rfl) rfl) ?_
      refine D_done (by kernel_rfl) ?_
      refine T_keep (kc 1 rfl <| kc 2 rfl <| kc 3 rfl <| kc 4 rfl <| kc 15 rfl <| kc 17 rfl <| kc 19 rfl <| kn) rfl ?_
      refine T_seq (T_draw (cw := md0) (by kernel_rfl) ?_)
      refine D_q0 0 _ rfl (by kernel_rfl) rfl rfl (v_loadA_r (ov rfl) tA41 rfl rfl) ?_
      refine D_q0 1 _ rfl (by kernel_rfl) rfl rfl (v_move (ov rfl)) ?_
      refine D_q0 2 _ rfl (by kernel_rfl) rfl rfl (v_loadA (ov rfl) rfl rfl rfl tA65 rfl rfl) ?_
      obtain ⟨y7, h_y7, h⟩ := bnd h
      refine D_q0 3 _ rfl (by kernel_rfl) rfl rfl (v_call (ok_ref8_faces h_y7) (.cons (ov rfl) (.aggB rfl) <| .cons (ov rfl) (.b rfl) <| .cons (ov rfl) (.aggB rfl) <| .nil)) ?_
      refine D_q0 4 _ rfl (by kernel_rfl) rfl rfl (v_loadA_r (ov rfl) tA41 rfl rfl) ?_
      refine D_q0 5 _ rfl (by kernel_rfl) rfl rfl (v_move (ov rfl)) ?_
      refine D_q0 6 _ rfl (by kernel_rfl) rfl rfl (v_loadA (ov rfl) rfl rfl rfl tA65 rfl rfl) ?_
      obtain ⟨y8, h_y8, h⟩ := bnd h
      refine D_q0 7 _ rfl (by kernel_rfl) rfl rfl (v_call (ok_ref8_faces h_y8) (.cons (ov rfl) (.aggB rfl) <| .cons (ov rfl) (.b rfl) <| .cons (ov rfl) (.aggB rfl) <| .nil)) ?_
      refine D_q0 8 _ rfl (by kernel_rfl) rfl rfl (v_assign (ov rfl)) ?_
      refine D_q0 9 _ rfl (by kernel_rfl) rfl rfl (v_assign (ov rfl)) ?_
      refine D_done (by kernel_rfl) ?_
      refine T_keep (kc 1 rfl <| kc 2 rfl <| kc 3 rfl <| kc 4 rfl <| kc 15 rfl <| kc 17 rfl <| kc 19 rfl <| kc 20 rfl <| kc 21 rfl <| kn) rfl ?_
      refine T_seq (T_reg ?_)
      refine R_q _ rfl (v_move (ov rfl)) ?_
      refine R_q _ rfl (v_len (slv_sl (ov rfl) tZ_57) tL51 (len_map _ _)) ?_
      refine R_q _ rfl (v_move (ov rfl)) ?_
      refine R_nil ?_
      refine T_block ?_
      obtain ⟨r3, hl3, ho3⟩ := bndL h
      refine T_loopG _ (t1 fun i2 => ⟨[(1, .sl 26 (List.map R26 a)), (2, .sl 26 (List.map R26 b)), (3, .int .i64 to), (4, .rp [.sl 55 (List.map R55 p.Instruments)] 0), (15, .ptr 0 1 0 0), (17, .ptr 1 1 0 0), (19, .int .i64 n), (20, .sl 57 (List.map R57 y7)), (21, .sl 57 (List.map R57 y8)), (72, .int .i64 (y7.length : Int)), (73, .int .i64 i2)], [some ⟨65, [[.int .i64 y5.Frame, .sl 129 (List.map R129 y5.Memos)]]⟩, some ⟨65, [[.int .i64 y6.Frame, .sl 129 (List.map R129 y6.Memos)]]⟩]⟩) _ hl3 (Ent.sel [some 0, some 1] (sd 1 rfl rfl <| sd 2 rfl rfl <| sd 3 rfl rfl <| sd 4 rfl rfl <| sr 15 rfl (.ptr _ _ _ rfl) <| sr 17 rfl (.ptr _ _ _ rfl) <| sd 19 rfl rfl <| sd 20 rfl rfl <| sd 21 rfl rfl <| sd 72 rfl rfl <| sd 73 rfl rfl <| sn) (.cons rfl (ro1 (by exact tZ_65.symm) (rld rfl)) <| .cons rfl (ro1 (by exact tZ_65.symm) (rld rfl)) <| .nil) rfl rfl) (fun n3 s3 h => ?_)
      obtain ⟨i2, rfl⟩ : ∃ x, x = s3 := ⟨_, rfl⟩
      replace h := t1i h
      refine t1T ?_
      unfold ref8_Differ_L3 at h
      refine T_seq (T_reg ?_)
      refine R_q _ rfl (v_lss (ov rfl) (ov rfl)) ?_
      refine R_nil ?_
      refine T_seq ?_
      refine T_if h rfl (fun b74 h => ?_) (fun b74 h => ?_)
      ·
       refine T_skip ?_
       refine T_seq ?_
       refine T_block ?_
       refine T_keep (kc 1 rfl <| kc 2 rfl <| kc 3 rfl <| kc 4 rfl <| kc 15 rfl <| kc 17 rfl <| kc 19 rfl <| kc 20 rfl <| kc 21 rfl <| kc 72 rfl <| kc 73 rfl <| kn) rfl ?_
       refine T_seq (T_reg ?_)
       refine R_q _ rfl (v_move (ov rfl)) ?_
       refine R_q _ rfl (v_assign (ov rfl)) ?_
       refine R_nil ?_
       refine T_keep (kc 1 rfl <| kc 2 rfl <| kc 3 rfl <| kc 4 rfl <| kc 15 rfl <| kc 17 rfl <| kc 19 rfl <| kc 20 rfl <| kc 21 rfl <| kc 22 rfl <| kc 72 rfl <| kc 73 rfl <| kn) rfl ?_
       refine T_seq (T_draw (cw := md0) (by kernel_rfl) ?_)
       refine D_q0 0 _ rfl (by kernel_rfl) rfl rfl (v_move (ov rfl)) ?_
       refine D_q0 1 _ rfl (by kernel_rfl) rfl rfl (v_move (ov rfl)) ?_
       obtain ⟨x2, h_x2, h⟩ := bnd h
       refine D_q0 2 _ rfl (by kernel_rfl) rfl rfl (v_ixSG (ov rfl) (ov rfl) tL51 h_x2) ?_
       refine D_q0 3 _ rfl (by kernel_rfl) rfl rfl (v_loadA_r (ov rfl) tA57 rfl rfl) ?_
       refine D_q0 4 _ rfl (by kernel_rfl) rfl rfl (v_move (ov rfl)) ?_
       refine D_q0 5 _ rfl (by kernel_rfl) rfl rfl (v_move (ov rfl)) ?_
       obtain ⟨x3, h_x3, h⟩ := bnd h
       refine D_q0 6 _ rfl (by kernel_rfl) rfl rfl (v_ixSG (ov rfl) (ov rfl) tL51 h_x3) ?_
       refine D_q0 7 _ rfl (by kernel_rfl) rfl rfl (v_loadA_r (ov rfl) tA57 rfl rfl) ?_
       refine D_q0 8 _ rfl (by kernel_rfl) rfl rfl (v_neqS tFS57 (ov rfl) (ov rfl) (.aggB rfl) (.aggB rfl) rfl rfl) ?_
       refine D_done (by kernel_rfl) ?_
       refine T_keep (kc 1 rfl <| kc 2 rfl <| kc 3 rfl <| kc 4 rfl <| kc 15 rfl <| kc 17 rfl <| kc 19 rfl <| kc 20 rfl <| kc 21 rfl <| kc 22 rfl <| kc 72 rfl <| kc 73 rfl <| kc 84 rfl <| kn) rfl ?_
       refine T_if h rfl (fun b84 h => ?_) (fun b84 h => ?_)
       ·
        refine T_keep (kc 19 rfl <| kc 22 rfl <| kn) rfl ?_
        refine T_seq (T_reg ?_)
        refine R_q _ rfl (v_move (ov rfl)) ?_
        refine R_q _ rfl (v_move (ov rfl)) ?_
        refine R_q _ rfl (v_assign (ov rfl)) ?_
        refine R_q _ rfl (v_assign (ov rfl)) ?_
        refine R_q _ rfl (v_assign (ov rfl)) ?_
        refine R_q _ rfl (v_assign (ov rfl)) ?_
        refine R_nil ?_
        rw [lx h] at ho3
        replace h := ho3
        rw [lx h] at ho2
        replace h := ho2
        obtain rfl := rt (v := (n, i2, true, 0)) h
        refine T_ret (retq ?_ (.four (.tmp rfl (Dat.view (.b rfl))) (.tmp rfl (Dat.view (.b rfl))) (.tmp rfl (Dat.view (.b rfl))) (.tmp rfl (Dat.view (.b rfl)))))
        rfl
       ·
        refine T_skip ?_
        refine T_keep (kc 1 rfl <| kc 2 rfl <| kc 3 rfl <| kc 4 rfl <| kc 15 rfl <| kc 17 rfl <| kc 19 rfl <| kc 20 rfl <| kc 21 rfl <| kc 72 rfl <| kc 73 rfl <| kn) rfl ?_
        refine T_reg ?_
        refine R_q _ rfl (v_add (ov rfl) (ov rfl) rfl) ?_
        refine R_q _ rfl (v_move (ov rfl)) ?_
        refine R_nil ?_
        exact ⟨(i64 (i2 + 1)), h, Ent.sel [some 0, some 1] (sd 1 rfl rfl <| sd 2 rfl rfl <| sd 3 rfl rfl <| sd 4 rfl rfl <| sr 15 rfl (.ptr _ _ _ rfl) <| sr 17 rfl (.ptr _ _ _ rfl) <| sd 19 rfl rfl <| sd 20 rfl rfl <| sd 21 rfl rfl <| sd 72 rfl rfl <| sd 73 rfl rfl <| sn) (.cons rfl (ro1 (by exact tZ_65.symm) (rld rfl)) <| .cons rfl (ro1 (by exact tZ_65.symm) (rld rfl)) <| .nil) rfl rfl⟩
      ·
       refine T_exit ?_
       rw [lx h] at ho3
       replace h := ho3
       exact ⟨(y5, y6), h, Ent.sel [some 0, some 1] (sd 1 rfl rfl <| sd 2 rfl rfl <| sd 3 rfl rfl <| sd 4 rfl rfl <| sr 15 rfl (.ptr _ _ _ rfl) <| sr 17 rfl (.ptr _ _ _ rfl) <| sd 19 rfl rfl <| sn) (.cons rfl (ro1 (by exact tZ_65.symm) (rld rfl)) <| .cons rfl (ro1 (by exact tZ_65.symm) (rld rfl)) <| .nil) rfl rfl⟩
     ·
      replace h := elr h
      obtain ⟨s2, t2⟩ := j
      replace h := t2i h
      refine t2T ?_
      refine T_reg ?_
      refine R_q _ rfl (v_move (ov rfl)) ?_
      refine R_q _ rfl (v_add (ov rfl) (ov rfl) rfl) ?_
      refine R_q _ rfl (v_assign (ov rfl)) ?_
      refine R_nil ?_
      exact ⟨(s2, t2, (i64 (n + 1))), h, Ent.sel [some 0, some 1] (sd 1 rfl rfl <| sd 2 rfl rfl <| sd 3 rfl rfl <| sd 4 rfl rfl <| sr 15 rfl (.ptr _ _ _ rfl) <| sr 17 rfl (.ptr _ _ _ rfl) <| sd 19 rfl rfl <| sn) (.cons rfl (ro1 (by exact tZ_65.symm) (rld rfl)) <| .cons rfl (ro1 (by exact tZ_65.symm) (rld rfl)) <| .nil) rfl rfl⟩
    ·
     refine T_exit ?_
     rw [lx h] at ho2
     replace h := ho2
     exact ⟨(), h, Ent.sel [] (sn) (.nil) rfl rfl⟩
   ·
    replace h := elr h
    cases j
    replace h := t0i h
    refine t0T ?_
    refine T_seq (T_reg ?_)
    refine R_q _ rfl (v_assign (ov rfl)) ?_
    refine R_q _ rfl (v_assign (ov rfl)) ?_
    refine R_q _ rfl (v_assign (ov rfl)) ?_
    refine R_q _ rfl (v_assign (ov rfl)) ?_
    refine R_nil ?_
    obtain rfl := rt (v := (0, 0, false, 0)) h
    refine T_ret (retq ?_ (.four (.tmp rfl (Dat.view (.b rfl))) (.tmp rfl (Dat.view (.b rfl))) (.tmp rfl (Dat.view (.b rfl))) (.tmp rfl (Dat.view (.b rfl)))))
    rfl

theorem ok_clone55_o {xs r : List api_Instrument} (h : clone xs = some r) :
  GSpec Tryz.prog gl0 135 [.sl 55 (List.map R55 xs)] [] (.own 0 r.length) [some ⟨55, List.map R55 r⟩] := by
 have h2 : app [] xs = some r := h
 refine gspec_of (by kernel_rfl) Tryz.func135 rfl rfl ?_
 intro w0 A W φ0
 refine T_seq (T_reg ?_)
 refine R_q _ rfl (v_assign (ov rfl)) ?_
 refine R_nil ?_
 refine T_seq (T_seq (T_reg ?_))
 refine R_q _ rfl (v_move (ov rfl)) ?_
 refine R_eqnil (ov rfl) tIsl39 rfl (fun b hb => ?_)
 refine R_nil ?_
 refine T_cond rfl (fun hb2 => ?_) (fun hb2 => ?_)
 ·
  obtain rfl : xs = [] := by simpa using hb hb2
  obtain rfl : r = [] := by simpa [app] using h2.symm
  refine T_seq (T_reg ?_)
  refine R_q _ rfl (v_assign (ov rfl)) ?_
  refine R_nil ?_
  refine T_ret ?_
  exact retg [none] rfl (.cons (.tmp rfl) .nil) (.row 55 .nil) rfl rfl (.row rfl)
 ·
  refine T_skip ?_
  refine T_seq (T_reg ?_)
  refine R_w _ _ rfl (w_litG (r := 0) (xs := []) (f := R55) rfl tL39 .nil rfl rfl rfl) ?_
  refine R_q _ rfl (v_move (ov rfl)) ?_
  refine R_w _ _ rfl (w_appendZ (ov rfl) (slv_sl (ov rfl) tZ_55) tL39 rfl rfl (fun _ => cell1_all rfl) rfl h2) ?_
  refine R_q _ rfl (v_assign (ov rfl)) ?_
  refine R_nil ?_
  refine T_ret ?_
  exact retg [some 0] rfl (.cons (.tmp rfl) .nil) (.cons rfl (roM D55) .nil) rfl rfl (.own _ rfl)

theorem ok_clone169 {xs r : List api_Zone} (h : clone xs = some r) :
  CSpec Tryz.prog gl0 136 [.sl 169 (List.map R169 xs)] (.sl 169 (List.map R169 r)) := by
 have h2 : app [] xs = some r := h
 refine spec_of (by kernel_rfl) Tryz.func136 rfl rfl ?_
 intro w0 A
 refine T_seq (T_reg ?_)
 refine R_q _ rfl (v_assign (ov rfl)) ?_
 refine R_nil ?_
 refine T_seq (T_seq (T_reg ?_))
 refine R_q _ rfl (v_move (ov rfl)) ?_
 refine R_eqnil (ov rfl) tIsl53 rfl (fun b hb => ?_)
 refine R_nil ?_
 refine T_cond rfl (fun hb2 => ?_) (fun hb2 => ?_)
 ·
  obtain rfl : xs = [] := by simpa using hb hb2
  obtain rfl : r = [] := by simpa [app] using h2.symm
  refine T_seq (T_reg ?_)
  refine R_q _ rfl (v_assign (ov rfl)) ?_
  refine R_nil ?_
  refine T_ret (retq rfl (.one (.tmp rfl (View.nils _))))
 ·
  refine T_skip ?_
  refine T_seq (T_reg ?_)
  refine R_w _ _ rfl (w_litG (r := 0) (xs := []) (f := R169) rfl tL53 .nil rfl rfl rfl) ?_
  refine R_q _ rfl (v_move (ov rfl)) ?_
  refine R_w _ _ rfl (w_appendZ (ov rfl) (slv_sl (ov rfl) tZ_169) tL53 rfl rfl (fun _ => cell1_all rfl) rfl h2) ?_
  refine R_q _ rfl (v_assign (ov rfl)) ?_
  refine R_nil ?_
  refine T_ret (retq rfl (.one (.tmp rfl (View.ownM rfl rfl D169))))

theorem ok_panel_copyPanel {p : api_Panel} {r : api_Panel} (h : panel_copyPanel p = some r) :
  CSpec Tryz.prog gl0 76 [.agg [.sl 55 (List.map R55 p.Instruments)]] (.agg [.sl 55 (List.map R55 r.Instruments)]) := by
 unfold panel_copyPanel at h
 replace h := bnd0 h
 refine spec_of (by kernel_rfl) Tryz.func76 rfl rfl ?_
 intro w0 A
 refine T_seq (T_reg ?_)
 refine R_q _ rfl (v_boxD (cva (ov rfl)) rfl tZ_41 rfl) ?_
 refine R_w _ _ rfl (w_alloc (row := [_]) 0 rfl tZ41 rfl tZ_41) ?_
 refine R_nil ?_
 refine T_keep (kc 1 rfl <| kc 2 rfl <| kn) rfl ?_
 refine T_seq (T_reg ?_)
 refine R_q _ rfl (v_fieldR (ov rfl) tF41_0) ?_
 refine R_q _ rfl (v_loadS_r (ov rfl) tS39 rfl) ?_
 obtain ⟨y, h_y, h⟩ := bnd h
 refine R_w _ _ rfl (w_callG [] (ok_clone55_o h_y) (.cons (ov rfl) (.dat rfl) <| .nil) (.nil) rfl (.keep rfl rfl <| .lent 0 (.inr ⟨Nat.le_of_ble_eq_true rfl, rfl⟩) rfl (roM D55) <| .nil) rfl rfl (.own _ (.inr ⟨Nat.le_of_ble_eq_true rfl, rfl⟩))) ?_
 refine R_q _ rfl (v_build (ys := [_]) tPL41 tHA41 tZ41 (.cons (cvs (ov rfl) (cell1_b rfl)) <| .nil) rfl) ?_
 refine R_w _ _ rfl (w_alloc (row := [_]) 2 rfl tZ41 rfl tZ_41) ?_
 refine R_w _ _ rfl (w_store (ov rfl) (ov rfl) (cells_agg tA41 rfl) rfl rfl rfl (Nat.le_of_ble_eq_true rfl) (cell1_all rfl) rfl) ?_
 refine R_nil ?_
 refine T_joinG id (t1 fun Instruments => ⟨[(2, .ptr 0 1 0 0), (3, .ptr 1 1 0 0)], [some ⟨41, [[.nils]]⟩, some ⟨41, [[.own 2 Instruments.length]]⟩, some ⟨55, List.map R55 Instruments⟩]⟩) h (fun h => ?_) (fun j h => ?_)
 ·
  refine T_keep (kc 2 rfl <| kc 3 rfl <| kn) rfl ?_
  refine T_seq (T_reg ?_)
  refine R_q _ rfl (v_fieldP (ov rfl) rfl rfl tF41_0) ?_
  refine R_q _ rfl (v_loadS (ov rfl) rfl rfl rfl tS39 rfl) ?_
  refine R_q _ rfl (v_lenO (ov rfl) rfl rfl tL39) ?_
  refine R_q _ rfl (v_move (ov rfl)) ?_
  refine R_nil ?_
  refine T_block ?_
  obtain ⟨r1, hl1, ho1⟩ := bndL h
  refine T_loopG _ (t2 fun Instruments2 i => ⟨[(2, .ptr 0 1 0 0), (3, .ptr 1 1 0 0), (11, .int .i64 (y.length : Int)), (12, .int .i64 i)], [some ⟨41, [[.nils]]⟩, some ⟨41, [[.own 2 Instruments2.length]]⟩, some ⟨55, List.map R55 Instruments2⟩]⟩) _ hl1 (Ent.sel [some 0, some 2, some 1] (sr 2 rfl (.ptr _ _ _ rfl) <| sr 3 rfl (.ptr _ _ _ rfl) <| sd 11 rfl rfl <| sd 12 rfl rfl <| sn) (.cons rfl (ro1 (by exact tZ_41.symm) (rld rfl)) <| .cons rfl (ro1 (by exact tZ_41.symm) (rlc (.own _ rfl) <| rln)) <| .cons rfl (roM D55) <| .nil) rfl rfl) (fun n1 s1 h => ?_)
  obtain ⟨Instruments2, i⟩ := s1
  replace h := t2i h
  refine t2T ?_
  unfold panel_copyPanel_L1 at h
  refine T_seq (T_reg ?_)
  refine R_q _ rfl (v_lss (ov rfl) (ov rfl)) ?_
  refine R_nil ?_
  refine T_seq ?_
  refine T_if h rfl (fun b13 h => ?_) (fun b13 h => ?_)
  ·
   refine T_skip ?_
   refine T_seq ?_
   refine T_block ?_
   refine T_keep (kc 2 rfl <| kc 3 rfl <| kc 11 rfl <| kc 12 rfl <| kn) rfl ?_
   refine T_seq (T_reg ?_)
   refine R_q _ rfl (v_move (ov rfl)) ?_
   refine R_q _ rfl (v_assign (ov rfl)) ?_
   refine R_nil ?_
   refine T_keep (kc 2 rfl <| kc 3 rfl <| kc 4 rfl <| kc 11 rfl <| kc 12 rfl <| kn) rfl ?_
   refine T_draw (cw := md0) (by kernel_rfl) ?_
   refine D_q0 0 _ rfl (by kernel_rfl) rfl rfl (v_fieldP (ov rfl) rfl rfl tF41_0) ?_
   refine D_q0 1 _ rfl (by kernel_rfl) rfl rfl (v_loadS (ov rfl) rfl rfl rfl tS39 rfl) ?_
   refine D_q0 2 _ rfl (by kernel_rfl) rfl rfl (v_move (ov rfl)) ?_
   refine D_q0 3 _ rfl (by kernel_rfl) rfl rfl (v_fieldP (ov rfl) rfl rfl tF41_0) ?_
   refine D_q0 4 _ rfl (by kernel_rfl) rfl rfl (v_loadS (ov rfl) rfl rfl rfl tS39 rfl) ?_
   refine D_q0 5 _ rfl (by kernel_rfl) rfl rfl (v_move (ov rfl)) ?_
   obtain ⟨x, h_x, h⟩ := bnd h
   refine D_q0 6 _ rfl (by kernel_rfl) rfl rfl (v_ixOG (ov rfl) (ov rfl) tL39 rfl rfl h_x) ?_
   refine D_q0 7 _ rfl (by kernel_rfl) rfl rfl (v_fieldPR (ov rfl) rfl rfl tF55_7) ?_
   refine D_q0 8 _ rfl (by kernel_rfl) rfl rfl (v_loadSR (ov rfl) rfl rfl h_x tS53 rfl) ?_
   obtain ⟨y2, h_y2, h⟩ := bnd h
   refine D_q0 9 _ rfl (by kernel_rfl) rfl rfl (v_call (ok_clone169 h_y2) (.cons (ov rfl) (.b rfl) <| .nil)) ?_
   obtain ⟨x2, h_x2, h⟩ := bnd h
   refine D_q0 10 _ rfl (by kernel_rfl) rfl rfl (v_ixOG (ov rfl) (ov rfl) tL39 rfl rfl h_x2) ?_
   refine D_q0 11 _ rfl (by kernel_rfl) rfl rfl (v_fieldPR (ov rfl) rfl rfl tF55_7) ?_
   refine D_one 12 _ _ rfl (by kernel_rfl) rfl rfl (fun h => by cases h) (fun h => by cases h) (w_storeR (u' := (api_Instrument.mk x2.Kind x2.Name x2.Track x2.Places x2.Low x2.High x2.Steps y2 x2.Op x2.N x2.Latch x2.Size)) (ov rfl) (ov rfl) (cells_scal tS53) rfl rfl h_x2 rfl (cell1_all rfl) rfl) ?_
   refine D_done (by kernel_rfl) ?_
   refine T_keep (kc 2 rfl <| kc 3 rfl <| kc 11 rfl <| kc 12 rfl <| kn) rfl ?_
   refine T_reg ?_
   refine R_q _ rfl (v_add (ov rfl) (ov rfl) rfl) ?_
   refine R_q _ rfl (v_move (ov rfl)) ?_
   refine R_nil ?_
   exact ⟨((Instruments2.set i.toNat (api_Instrument.mk x2.Kind x2.Name x2.Track x2.Places x2.Low x2.High x2.Steps y2 x2.Op x2.N x2.Latch x2.Size)), (i64 (i + 1))), h, Ent.sel [some 0, some 1, some 2] (sr 2 rfl (.ptr _ _ _ rfl) <| sr 3 rfl (.ptr _ _ _ rfl) <| sd 11 rfl rfl <| sd 12 rfl rfl <| sn) (.cons rfl (ro1 (by exact tZ_41.symm) (rld rfl)) <| .cons rfl (ro1 (by exact tZ_41.symm) (rlc (ownE (Eq.symm ((List.length_set ..).trans rfl)) rfl) <| rln)) <| .cons rfl (roM D55) <| .nil) rfl rfl⟩
  ·
   refine T_exit ?_
   rw [lx h] at ho1
   replace h := ho1
   exact ⟨Instruments2, h, Ent.sel [some 0, some 1, some 2] (sr 2 rfl (.ptr _ _ _ rfl) <| sr 3 rfl (.ptr _ _ _ rfl) <| sn) (.cons rfl (ro1 (by exact tZ_41.symm) (rld rfl)) <| .cons rfl (ro1 (by exact tZ_41.symm) (rlc (.own _ rfl) <| rln)) <| .cons rfl (roM D55) <| .nil) rfl rfl⟩
 ·
  obtain ⟨Instruments, rfl⟩ : ∃ x, x = j := ⟨_, rfl⟩
  replace h := t1i h
  refine t1T ?_
  refine T_seq (T_reg ?_)
  refine R_q _ rfl (v_loadA (ov rfl) rfl rfl rfl tA41 rfl rfl) ?_
  refine R_w _ _ rfl (w_store (ov rfl) (ov rfl) (cells_agg tA41 rfl) rfl rfl rfl (Nat.le_of_ble_eq_true rfl) (cell1_all rfl) rfl) ?_
  refine R_nil ?_
  obtain rfl := rt (v := (api_Panel.mk Instruments)) h
  refine T_ret (retq ?_ (.one (.agg rfl rfl rfl rfl tA41 rfl rfl (.cons (View.ownM rfl rfl D55) <| .nil))))
  rfl

theorem ok_clone26_o {xs r : List api_Track} (h : clone xs = some r) :
  GSpec Tryz.prog gl0 137 [.sl 26 (List.map R26 xs)] [] (.own 0 r.length) [some ⟨26, List.map R26 r⟩] := by
 have h2 : app [] xs = some r := h
 refine gspec_of (by kernel_rfl) Tryz.func137 rfl rfl ?_
 intro w0 A W φ0
 refine T_seq (T_reg ?_)
 refine R_q _ rfl (v_assign (ov rfl)) ?_
 refine R_nil ?_
 refine T_seq (T_seq (T_reg ?_))
 refine R_q _ rfl (v_move (ov rfl)) ?_
 refine R_eqnil (ov rfl) tIsl42 rfl (fun b hb => ?_)
 refine R_nil ?_
 refine T_cond rfl (fun hb2 => ?_) (fun hb2 => ?_)
 ·
  obtain rfl : xs = [] := by simpa using hb hb2
  obtain rfl : r = [] := by simpa [app] using h2.symm
  refine T_seq (T_reg ?_)
  refine R_q _ rfl (v_assign (ov rfl)) ?_
  refine R_nil ?_
  refine T_ret ?_
  exact retg [none] rfl (.cons (.tmp rfl) .nil) (.row 26 .nil) rfl rfl (.row rfl)
 ·
  refine T_skip ?_
  refine T_seq (T_reg ?_)
  refine R_w _ _ rfl (w_litG (r := 0) (xs := []) (f := R26) rfl tL42 .nil rfl rfl rfl) ?_
  refine R_q _ rfl (v_move (ov rfl)) ?_
  refine R_w _ _ rfl (w_appendZ (ov rfl) (slv_sl (ov rfl) tZ_26) tL42 rfl rfl (fun _ => cell1_all rfl) rfl h2) ?_
  refine R_q _ rfl (v_assign (ov rfl)) ?_
  refine R_nil ?_
  refine T_ret ?_
  exact retg [some 0] rfl (.cons (.tmp rfl) .nil) (.cons rfl (roM D26) .nil) rfl rfl (.own _ rfl)

theorem ok_clone28 {xs r : List api_Sample} (h : clone xs = some r) :
  CSpec Tryz.prog gl0 138 [.sl 28 (List.map R28 xs)] (.sl 28 (List.map R28 r)) := by
 have h2 : app [] xs = some r := h
 refine spec_of (by kernel_rfl) Tryz.func138 rfl rfl ?_
 intro w0 A
 refine T_seq (T_reg ?_)
 refine R_q _ rfl (v_assign (ov rfl)) ?_
 refine R_nil ?_
 refine T_seq (T_seq (T_reg ?_))
 refine R_q _ rfl (v_move (ov rfl)) ?_
 refine R_eqnil (ov rfl) tIsl22 rfl (fun b hb => ?_)
 refine R_nil ?_
 refine T_cond rfl (fun hb2 => ?_) (fun hb2 => ?_)
 ·
  obtain rfl : xs = [] := by simpa using hb hb2
  obtain rfl : r = [] := by simpa [app] using h2.symm
  refine T_seq (T_reg ?_)
  refine R_q _ rfl (v_assign (ov rfl)) ?_
  refine R_nil ?_
  refine T_ret (retq rfl (.one (.tmp rfl (View.nils _))))
 ·
  refine T_skip ?_
  refine T_seq (T_reg ?_)
  refine R_w _ _ rfl (w_litG (r := 0) (xs := []) (f := R28) rfl tL22 .nil rfl rfl rfl) ?_
  refine R_q _ rfl (v_move (ov rfl)) ?_
  refine R_w _ _ rfl (w_appendZ (ov rfl) (slv_sl (ov rfl) tZ_28) tL22 rfl rfl (fun _ => cell1_all rfl) rfl h2) ?_
  refine R_q _ rfl (v_assign (ov rfl)) ?_
  refine R_nil ?_
  refine T_ret (retq rfl (.one (.tmp rfl (View.ownM rfl rfl D28))))

theorem ok_panel_copyTracks {l : List api_Track} {r : (List api_Track)} (h : panel_copyTracks l = some r) :
  CSpec Tryz.prog gl0 77 [.sl 26 (List.map R26 l)] (.sl 26 (List.map R26 r)) := by
 unfold panel_copyTracks at h
 replace h := bnd0 h
 refine spec_of (by kernel_rfl) Tryz.func77 rfl rfl ?_
 intro w0 A
 refine T_seq (T_reg ?_)
 refine R_q _ rfl (v_assign (ov rfl)) ?_
 refine R_nil ?_
 refine T_keep (kc 0 rfl <| kn) rfl ?_
 refine T_seq (T_reg ?_)
 refine R_q _ rfl (v_move (ov rfl)) ?_
 obtain ⟨y, h_y, h⟩ := bnd h
 refine R_w _ _ rfl (w_callG [] (ok_clone26_o h_y) (.cons (ov rfl) (.dat rfl) <| .nil) (.nil) rfl (.lent 0 (.inr ⟨Nat.le_of_ble_eq_true rfl, rfl⟩) rfl (roM D26) <| .nil) rfl rfl (.own _ (.inr ⟨Nat.le_of_ble_eq_true rfl, rfl⟩))) ?_
 refine R_q _ rfl (v_assign (ov rfl)) ?_
 refine R_nil ?_
 refine T_joinG id (t1 fun out => ⟨[(3, .own 0 out.length)], [some ⟨26, List.map R26 out⟩]⟩) h (fun h => ?_) (fun j h => ?_)
 ·
  refine T_keep (kc 3 rfl <| kn) rfl ?_
  refine T_seq (T_reg ?_)
  refine R_q _ rfl (v_move (ov rfl)) ?_
  refine R_q _ rfl (v_lenO (ov rfl) rfl rfl tL42) ?_
  refine R_q _ rfl (v_move (ov rfl)) ?_
  refine R_nil ?_
  refine T_block ?_
  obtain ⟨r1, hl1, ho1⟩ := bndL h
  refine T_loopG _ (t2 fun out2 i => ⟨[(3, .own 0 out2.length), (8, .int .i64 (y.length : Int)), (9, .int .i64 i)], [some ⟨26, List.map R26 out2⟩]⟩) _ hl1 (Ent.sel [some 0] (sr 3 rfl (.own _ rfl) <| sd 8 rfl rfl <| sd 9 rfl rfl <| sn) (.cons rfl (roM D26) <| .nil) rfl rfl) (fun n1 s1 h => ?_)
  obtain ⟨out2, i⟩ := s1
  replace h := t2i h
  refine t2T ?_
  unfold panel_copyTracks_L1 at h
  refine T_seq (T_reg ?_)
  refine R_q _ rfl (v_lss (ov rfl) (ov rfl)) ?_
  refine R_nil ?_
  refine T_seq ?_
  refine T_if h rfl (fun b10 h => ?_) (fun b10 h => ?_)
  ·
   refine T_skip ?_
   refine T_seq ?_
   refine T_block ?_
   refine T_keep (kc 3 rfl <| kc 8 rfl <| kc 9 rfl <| kn) rfl ?_
   refine T_seq (T_reg ?_)
   refine R_q _ rfl (v_move (ov rfl)) ?_
   refine R_q _ rfl (v_assign (ov rfl)) ?_
   refine R_nil ?_
   refine T_keep (kc 3 rfl <| kc 4 rfl <| kc 8 rfl <| kc 9 rfl <| kn) rfl ?_
   refine T_reg ?_
   refine R_q _ rfl (v_move (ov rfl)) ?_
   refine R_q _ rfl (v_move (ov rfl)) ?_
   refine R_q _ rfl (v_move (ov rfl)) ?_
   refine R_q _ rfl (v_move (ov rfl)) ?_
   obtain ⟨x, h_x, h⟩ := bnd h
   refine R_q _ rfl (v_ixOG (ov rfl) (ov rfl) tL42 rfl rfl h_x) ?_
   refine R_q _ rfl (v_fieldPR (ov rfl) rfl rfl tF26_1) ?_
   refine R_q _ rfl (v_fieldPR (ov rfl) rfl rfl tF24_1) ?_
   refine R_q _ rfl (v_loadSR (ov rfl) rfl rfl h_x tS22 rfl) ?_
   obtain ⟨y2, h_y2, h⟩ := bnd h
   refine R_q _ rfl (v_call (ok_clone28 h_y2) (.cons (ov rfl) (.b rfl) <| .nil)) ?_
   obtain ⟨x2, h_x2, h⟩ := bnd h
   refine R_q _ rfl (v_ixOG (ov rfl) (ov rfl) tL42 rfl rfl h_x2) ?_
   refine R_q _ rfl (v_fieldPR (ov rfl) rfl rfl tF26_1) ?_
   refine R_q _ rfl (v_fieldPR (ov rfl) rfl rfl tF24_1) ?_
   refine R_w _ _ rfl (w_storeR (u' := (api_Track.mk x2.Name (api_Series.mk x2.Series.Den y2) x2.Long)) (ov rfl) (ov rfl) (cells_scal tS22) rfl rfl h_x2 rfl (cell1_all rfl) rfl) ?_
   refine R_nil ?_
   refine T_keep (kc 3 rfl <| kc 8 rfl <| kc 9 rfl <| kn) rfl ?_
   refine T_reg ?_
   refine R_q _ rfl (v_add (ov rfl) (ov rfl) rfl) ?_
   refine R_q _ rfl (v_move (ov rfl)) ?_
   refine R_nil ?_
   exact ⟨((out2.set i.toNat (api_Track.mk x2.Name (api_Series.mk x2.Series.Den y2) x2.Long)), (i64 (i + 1))), h, Ent.sel [some 0] (sr 3 rfl (ownE (Eq.symm ((List.length_set ..).trans rfl)) rfl) <| sd 8 rfl rfl <| sd 9 rfl rfl <| sn) (.cons rfl (roM D26) <| .nil) rfl rfl⟩
  ·
   refine T_exit ?_
   rw [lx h] at ho1
   replace h := ho1
   exact ⟨out2, h, Ent.sel [some 0] (sr 3 rfl (.own _ rfl) <| sn) (.cons rfl (roM D26) <| .nil) rfl rfl⟩
 ·
  obtain ⟨out, rfl⟩ : ∃ x, x = j := ⟨_, rfl⟩
  replace h := t1i h
  refine t1T ?_
  refine T_seq (T_reg ?_)
  refine R_q _ rfl (v_move (ov rfl)) ?_
  refine R_q _ rfl (v_assign (ov rfl)) ?_
  refine R_nil ?_
  obtain rfl := rt (v := out) h
  refine T_ret (retq ?_ (.one (.tmp rfl (View.ownM rfl rfl D26))))
  rfl

theorem ok_panel_New_o {p : api_Panel} {l : List api_Track} {keep : Int} {r : (Int) ⊕ (panel_Replay × Int)} (h : panel_New p l keep = some r) :
  GSpec Tryz.prog gl0 22 [.agg [.sl 55 (List.map R55 p.Instruments)], .sl 26 (List.map R26 l), .int .i64 keep] [] (Sum.elim (fun r => .tuple [.lit (.pointer none), .int .i64 r]) (fun r => .tuple [.ptr 0 1 0 0, .int .i64 r.2]) r) (Sum.elim (fun r => []) (fun r => [some ⟨114, [[.sl 55 (List.map R55 r.1.p.Instruments), .sl 26 (List.map R26 r.1.l), .int .i64 r.1.keep, .int .i64 r.1.state.Frame, .sl 129 (List.map R129 r.1.state.Memos), .own 1 r.1.kept.length, .own 2 r.1.marks.length]]⟩, some ⟨65, List.map R65 r.1.kept⟩, some ⟨137, List.map R137 r.1.marks⟩]) r) := by
 unfold panel_New at h
 replace h := bnd0 h
 refine gspec_of (by kernel_rfl) Tryz.func22 rfl rfl ?_
 intro w0 A W φ0
 refine T_seq (T_reg ?_)
 refine R_q _ rfl (v_boxD (cva (ov rfl)) rfl tZ_41 rfl) ?_
 refine R_q _ rfl (v_assign (ov rfl)) ?_
 refine R_q _ rfl (v_assign (ov rfl)) ?_
 refine R_nil ?_
 refine T_seq ?_
 refine T_keep (kc 1 rfl <| kc 2 rfl <| kc 3 rfl <| kn) rfl ?_
 refine T_seq (T_reg ?_)
 refine R_q _ rfl (v_loadA_r (ov rfl) tA41 rfl rfl) ?_
 refine R_q _ rfl (v_move (ov rfl)) ?_
 obtain ⟨y, h_y, h⟩ := bnd h
 refine R_q _ rfl (v_call (ok_panel_checkBoth h_y) (.cons (ov rfl) (.aggB rfl) <| .cons (ov rfl) (.b rfl) <| .nil)) ?_
 refine R_q _ rfl (v_assign (ov rfl)) ?_
 refine R_nil ?_
 refine T_keep (kc 1 rfl <| kc 2 rfl <| kc 3 rfl <| kc 8 rfl <| kn) rfl ?_
 refine T_seq (T_reg ?_)
 refine R_q _ rfl (v_move (ov rfl)) ?_
 refine R_q _ rfl (v_neq (ov rfl) (ov rfl)) ?_
 refine R_nil ?_
 refine T_keep (kc 1 rfl <| kc 2 rfl <| kc 3 rfl <| kc 8 rfl <| kc 13 rfl <| kn) rfl ?_
 refine T_if h rfl (fun b13 h => ?_) (fun b13 h => ?_)
 ·
  refine T_keep (kc 8 rfl <| kn) rfl ?_
  refine T_seq (T_reg ?_)
  refine R_q _ rfl (v_move (ov rfl)) ?_
  refine R_q _ rfl (v_assign (ov rfl)) ?_
  refine R_q _ rfl (v_assign (ov rfl)) ?_
  refine R_nil ?_
  obtain rfl := rt (v := (Sum.inl y)) h
  refine T_ret ?_
  exact retg [] rfl (.cons (.tmp rfl) <| .cons (.tmp rfl) <| .nil) (.nil) rfl rfl (rTup (rlc (.dat rfl) <| rlc (.dat rfl) <| rln))
 ·
  refine T_skip ?_
  refine T_seq ?_
  refine T_keep (kc 1 rfl <| kc 2 rfl <| kc 3 rfl <| kn) rfl ?_
  refine T_seq (T_reg ?_)
  refine R_q _ rfl (v_move (ov rfl)) ?_
  obtain ⟨y2, h_y2, h⟩ := bnd h
  refine R_q _ rfl (v_call (ok_panel_within h_y2) (.cons (ov rfl) (.b rfl) <| .cons (ov rfl) (.b rfl) <| .cons (ov rfl) (.b rfl) <| .nil)) ?_
  refine R_q _ rfl (v_not (ov rfl)) ?_
  refine R_nil ?_
  refine T_keep (kc 1 rfl <| kc 2 rfl <| kc 3 rfl <| kc 17 rfl <| kn) rfl ?_
  refine T_if h rfl (fun b17 h => ?_) (fun b17 h => ?_)
  ·
   refine T_keep (kn) rfl ?_
   refine T_seq (T_reg ?_)
   refine R_q _ rfl (v_assign (ov rfl)) ?_
   refine R_q _ rfl (v_assign (ov rfl)) ?_
   refine R_nil ?_
   obtain rfl := rt (v := (Sum.inl 9)) h
   refine T_ret ?_
   exact retg [] rfl (.cons (.tmp rfl) <| .cons (.tmp rfl) <| .nil) (.nil) rfl rfl (rTup (rlc (.dat rfl) <| rlc (.dat rfl) <| rln))
  ·
   refine T_skip ?_
   refine T_keep (kc 1 rfl <| kc 2 rfl <| kc 3 rfl <| kn) rfl ?_
   refine T_seq (T_draw (cw := md0) (by kernel_rfl) ?_)
   refine D_q0 0 _ rfl (by kernel_rfl) rfl rfl (v_loadA_r (ov rfl) tA41 rfl rfl) ?_
   obtain ⟨y3, h_y3, h⟩ := bnd h
   refine D_q0 1 _ rfl (by kernel_rfl) rfl rfl (v_call (ok_panel_copyPanel h_y3) (.cons (ov rfl) (.aggB rfl) <| .nil)) ?_
   refine D_q0 2 _ rfl (by kernel_rfl) rfl rfl (v_move (ov rfl)) ?_
   obtain ⟨y4, h_y4, h⟩ := bnd h
   refine D_q0 3 _ rfl (by kernel_rfl) rfl rfl (v_call (ok_panel_copyTracks h_y4) (.cons (ov rfl) (.b rfl) <| .nil)) ?_
   refine D_q0 4 _ rfl (by kernel_rfl) rfl rfl (v_move (ov rfl)) ?_
   refine D_q0 5 _ rfl (by kernel_rfl) rfl rfl (v_loadA_r (ov rfl) tA41 rfl rfl) ?_
   obtain ⟨y5, h_y5, h⟩ := bnd h
   refine D_q0 6 _ rfl (by kernel_rfl) rfl rfl (v_call (ok_panel_first h_y5) (.cons (ov rfl) (.aggB rfl) <| .nil)) ?_
   refine D_q0 7 _ rfl (by kernel_rfl) rfl rfl (v_build (ys := [_, _, _, _, _, _, _]) tPL114 tHA114 tZ114 (.cons (cva (ov rfl)) <| .cons (cvs (ov rfl) (cell1_b rfl)) <| .cons (cvs (ov rfl) (cell1_b rfl)) <| .cons (cva (ov rfl)) <| .nil) rfl) ?_
   refine D_one 8 _ _ rfl (by kernel_rfl) rfl rfl (fun _ => Ext.app) (fun h => by cases h) (w_box 0 rfl (ov rfl) tA114 rfl) ?_
   refine D_q0 9 _ rfl (by kernel_rfl) rfl rfl (v_assign (ov rfl)) ?_
   refine D_q0 10 _ rfl (by kernel_rfl) rfl rfl (v_assign (ov rfl)) ?_
   refine D_done (by kernel_rfl) ?_
   obtain rfl := rt (v := (Sum.inr ((panel_Replay.mk y3 y4 keep y5 [] []), 0))) h
   refine T_ret ?_
   exact retg [some 0, none, none] rfl (.cons (.tmp rfl) <| .cons (.tmp rfl) <| .nil) (.cons rfl (ro1 (by exact tZ_114.symm) (rlc (.dat rfl) <| rlc (.dat rfl) <| rlc (.dat rfl) <| rlc (.dat rfl) <| rlc (.dat rfl) <| rlc (.row rfl) <| rlc (.row rfl) <| rln)) <| .row 65 <| .row 137 <| .nil) rfl rfl (rTup (rlc (.ptr _ _ _ rfl) <| rlc (.dat rfl) <| rln))
theorem ok_panel_New_o_nil {p : api_Panel} {l : List api_Track} {keep : Int} {r : Int} (h : panel_New p l keep = some (.inl r)) :
  GSpec Tryz.prog gl0 22 [.agg [.sl 55 (List.map R55 p.Instruments)], .sl 26 (List.map R26 l), .int .i64 keep] [] (.tuple [.lit (.pointer none), .int .i64 r]) [] := ok_panel_New_o h
theorem ok_panel_New_o_ptr {p : api_Panel} {l : List api_Track} {keep : Int} {r : panel_Replay × Int} (h : panel_New p l keep = some (.inr r)) :
  GSpec Tryz.prog gl0 22 [.agg [.sl 55 (List.map R55 p.Instruments)], .sl 26 (List.map R26 l), .int .i64 keep] [] (.tuple [.ptr 0 1 0 0, .int .i64 r.2]) [some ⟨114, [[.sl 55 (List.map R55 r.1.p.Instruments), .sl 26 (List.map R26 r.1.l), .int .i64 r.1.keep, .int .i64 r.1.state.Frame, .sl 129 (List.map R129 r.1.state.Memos), .own 1 r.1.kept.length, .own 2 r.1.marks.length]]⟩, some ⟨65, List.map R65 r.1.kept⟩, some ⟨137, List.map R137 r.1.marks⟩] := ok_panel_New_o h

theorem ok_panel_advance_o {p : api_Panel} {l : List api_Track} {s : api_PanelState} {r : api_PanelState} (h : panel_advance p l s = some r) :
  GSpec Tryz.prog gl0 71 [.agg [.sl 55 (List.map R55 p.Instruments)], .sl 26 (List.map R26 l), .agg [.int .i64 s.Frame, .sl 129 (List.map R129 s.Memos)]] [] (.agg [.int .i64 r.Frame, .own 0 r.Memos.length]) [some ⟨129, List.map R129 r.Memos⟩] := by
 unfold panel_advance at h
 replace h := bnd0 h
 refine gspec_of (by kernel_rfl) Tryz.func71 rfl rfl ?_
 intro w0 A W φ0
 refine T_seq (T_reg ?_)
 refine R_q _ rfl (v_boxD (cva (ov rfl)) rfl tZ_41 rfl) ?_
 refine R_q _ rfl (v_boxD (cva (ov rfl)) rfl tZ_65 rfl) ?_
 refine R_w _ _ rfl (w_alloc (row := [_, _]) 0 rfl tZ65 rfl tZ_65) ?_
 refine R_nil ?_
 refine T_keep (kc 1 rfl <| kc 3 rfl <| kc 5 rfl <| kc 6 rfl <| kn) rfl ?_
 refine T_seq (T_reg ?_)
 refine R_q _ rfl (v_fieldR (ov rfl) tF65_0) ?_
 refine R_q _ rfl (v_loadS_r (ov rfl) tS3 rfl) ?_
 refine R_q _ rfl (v_add (ov rfl) (ov rfl) rfl) ?_
 refine R_q _ rfl (v_build (ys := [_, _]) tPL65 tHA65 tZ65 (.cons (cvs (ov rfl) (cell1_b rfl)) <| .nil) rfl) ?_
 refine R_w _ _ rfl (w_alloc (row := [_, _]) 1 rfl tZ65 rfl tZ_65) ?_
 refine R_w _ _ rfl (w_store (ov rfl) (ov rfl) (cells_agg tA65 rfl) rfl rfl rfl (Nat.le_of_ble_eq_true rfl) (cell1_all rfl) rfl) ?_
 refine R_nil ?_
 refine T_joinG id (t1 fun Memos => ⟨[(6, .ptr 0 1 0 0), (7, .ptr 1 1 0 0)], [some ⟨65, [[.int .i64 0, .nils]]⟩, some ⟨65, [[.int .i64 (i64 (s.Frame + 1)), .own 2 Memos.length]]⟩, some ⟨129, List.map R129 Memos⟩]⟩) h (fun h => ?_) (fun j h => ?_)
 ·
  refine T_keep (kc 1 rfl <| kc 3 rfl <| kc 5 rfl <| kc 6 rfl <| kc 7 rfl <| kn) rfl ?_
  refine T_seq (T_reg ?_)
  refine R_q _ rfl (v_fieldR (ov rfl) tF41_0) ?_
  refine R_q _ rfl (v_loadS_r (ov rfl) tS39 rfl) ?_
  refine R_q _ rfl (v_len (slv_sl (ov rfl) tZ_55) tL39 (len_map _ _)) ?_
  refine R_q _ rfl (v_move (ov rfl)) ?_
  refine R_nil ?_
  refine T_block ?_
  obtain ⟨r1, hl1, ho1⟩ := bndL h
  refine T_loopG _ (t2 fun Memos2 i => ⟨[(1, .sl 26 (List.map R26 l)), (5, .rp [.int .i64 s.Frame, .sl 129 (List.map R129 s.Memos)] 0), (6, .ptr 0 1 0 0), (7, .ptr 1 1 0 0), (18, .sl 55 (List.map R55 p.Instruments)), (19, .int .i64 (p.Instruments.length : Int)), (20, .int .i64 i)], [some ⟨65, [[.int .i64 0, .nils]]⟩, some ⟨65, [[.int .i64 (i64 (s.Frame + 1)), .own 2 Memos2.length]]⟩, some ⟨129, List.map R129 Memos2⟩]⟩) _ hl1 (Ent.sel [some 0, some 1, none] (sd 1 rfl rfl <| sd 5 rfl rfl <| sr 6 rfl (.ptr _ _ _ rfl) <| sr 7 rfl (.ptr _ _ _ rfl) <| sd 18 rfl rfl <| sd 19 rfl rfl <| sd 20 rfl rfl <| sn) (.cons rfl (ro1 (by exact tZ_65.symm) (rld rfl)) <| .cons rfl (ro1 (by exact tZ_65.symm) (rlc (.dat rfl) <| rlc (.row rfl) <| rln)) <| .row 129 <| .nil) rfl rfl) (fun n1 s1 h => ?_)
  obtain ⟨Memos2, i⟩ := s1
  replace h := t2i h
  refine t2T ?_
  unfold panel_advance_L1 at h
  refine T_seq (T_reg ?_)
  refine R_q _ rfl (v_lss (ov rfl) (ov rfl)) ?_
  refine R_nil ?_
  refine T_seq ?_
  refine T_if h rfl (fun b21 h => ?_) (fun b21 h => ?_)
  ·
   refine T_skip ?_
   refine T_seq ?_
   refine T_block ?_
   refine T_keep (kc 1 rfl <| kc 5 rfl <| kc 6 rfl <| kc 7 rfl <| kc 18 rfl <| kc 19 rfl <| kc 20 rfl <| kn) rfl ?_
   refine T_seq (T_reg ?_)
   refine R_q _ rfl (v_move (ov rfl)) ?_
   obtain ⟨x, h_x, h⟩ := bnd h
   refine R_q _ rfl (v_ixSG (ov rfl) (ov rfl) tL39 h_x) ?_
   refine R_q _ rfl (v_loadA_r (ov rfl) tA55 rfl rfl) ?_
   refine R_w _ _ rfl (w_alloc (row := [_, _, _, _, _, _, _, _, _, _, _, _]) 3 rfl tZ55 rfl tZ_55) ?_
   refine R_q _ rfl (v_assign (ov rfl)) ?_
   refine R_w _ _ rfl (w_store (ov rfl) (ov rfl) (cells_agg tA55 rfl) rfl rfl rfl (Nat.le_of_ble_eq_true rfl) (cell1_all rfl) rfl) ?_
   refine R_nil ?_
   refine T_keep (kc 1 rfl <| kc 5 rfl <| kc 6 rfl <| kc 7 rfl <| kc 8 rfl <| kc 9 rfl <| kc 18 rfl <| kc 19 rfl <| kc 20 rfl <| kn) rfl ?_
   refine T_seq (T_draw (cw := md0) (by kernel_rfl) ?_)
   refine D_free 0 _ rfl (by kernel_rfl) rfl rfl (fun hp' => v_move (ov rfl)) ?_
   refine D_free 1 _ rfl (by kernel_rfl) rfl rfl (fun hp' => v_move (ov rfl)) ?_
   refine D_read 2 _ rfl (by kernel_rfl) rfl rfl rfl ExtW.refl (fun hp' hx => v_loadA (ov rfl) (hx.get rfl rfl) rfl rfl tA55 rfl rfl) ?_
   obtain ⟨y, h_y, h⟩ := bnd h
   refine D_read 3 _ rfl (by kernel_rfl) rfl rfl rfl ExtW.refl (fun hp' hx => v_call (ok_panel_trackOf h_y) (.cons (ov rfl) (.b rfl) <| .cons (ov rfl) (.aggB rfl) <| .nil)) ?_
   obtain ⟨x2, h_x2, h⟩ := bnd h
   refine D_read 4 _ rfl (by kernel_rfl) rfl rfl rfl ExtW.refl (fun hp' hx => v_ixSG (ov rfl) (ov rfl) tL42 h_x2) ?_
   refine D_read 5 _ rfl (by kernel_rfl) rfl rfl rfl ExtW.refl (fun hp' hx => v_loadA_r (ov rfl) tA26 rfl rfl) ?_
   refine D_read 6 _ rfl (by kernel_rfl) rfl rfl rfl ExtW.refl (fun hp' hx => v_fieldP (ov rfl) (hx.get rfl rfl) rfl tF65_0) ?_
   refine D_read 7 _ rfl (by kernel_rfl) rfl rfl rfl ExtW.refl (fun hp' hx => v_loadS (ov rfl) (hx.get rfl rfl) rfl rfl tS3 rfl) ?_
   obtain ⟨y2, h_y2, h⟩ := bnd h
   refine D_read 8 _ rfl (by kernel_rfl) rfl rfl rfl ExtW.refl (fun hp' hx => v_call (ok_panel_value h_y2) (.cons (ov rfl) (.aggB rfl) <| .cons (ov rfl) (.b rfl) <| .nil)) ?_
   refine D_free 9 _ rfl (by kernel_rfl) rfl rfl (fun hp' => v_move (ov rfl)) ?_
   refine D_free 10 _ rfl (by kernel_rfl) rfl rfl (fun hp' => v_extract (ov rfl) rfl) ?_
   refine D_free 11 _ rfl (by kernel_rfl) rfl rfl (fun hp' => v_extract (ov rfl) rfl) ?_
   refine D_one 12 _ _ rfl (by kernel_rfl) rfl rfl (fun _ => Ext.app) (fun h => by cases h) (w_alloc (row := [_, _, _]) 4 rfl tZ28 rfl tZ_28) ?_
   refine D_one 13 _ _ rfl (by kernel_rfl) rfl rfl (fun h => by cases h) (fun h => by cases h) (w_store (ov rfl) (ov rfl) (cells_agg tA28 rfl) rfl rfl rfl (Nat.le_of_ble_eq_true rfl) (cell1_all rfl) rfl) ?_
   refine D_q0 14 _ rfl (by kernel_rfl) rfl rfl (v_assign (ov rfl)) ?_
   refine D_done (by kernel_rfl) ?_
   refine T_keep (kc 1 rfl <| kc 5 rfl <| kc 6 rfl <| kc 7 rfl <| kc 8 rfl <| kc 9 rfl <| kc 10 rfl <| kc 11 rfl <| kc 18 rfl <| kc 19 rfl <| kc 20 rfl <| kn) rfl ?_
   refine T_seq (T_reg ?_)
   refine R_q _ rfl (v_fieldR (ov rfl) tF65_1) ?_
   refine R_q _ rfl (v_loadS_r (ov rfl) tS63 rfl) ?_
   refine R_q _ rfl (v_move (ov rfl)) ?_
   obtain ⟨x3, h_x3, h⟩ := bnd h
   refine R_q _ rfl (v_ixSG (ov rfl) (ov rfl) tL63 h_x3) ?_
   refine R_q _ rfl (v_loadA_r (ov rfl) tA129 rfl rfl) ?_
   refine R_w _ _ rfl (w_alloc (row := [_, _, _, _, _]) 5 rfl tZ129 rfl tZ_129) ?_
   refine R_w _ _ rfl (w_store (ov rfl) (ov rfl) (cells_agg tA129 rfl) rfl rfl rfl (Nat.le_of_ble_eq_true rfl) (cell1_all rfl) rfl) ?_
   refine R_nil ?_
   refine T_keep (kc 1 rfl <| kc 5 rfl <| kc 6 rfl <| kc 7 rfl <| kc 9 rfl <| kc 10 rfl <| kc 11 rfl <| kc 12 rfl <| kc 18 rfl <| kc 19 rfl <| kc 20 rfl <| kn) rfl ?_
   refine T_seq (T_reg ?_)
   refine R_q _ rfl (v_fieldP (ov rfl) rfl rfl tF129_4) ?_
   refine R_q _ rfl (v_loadS (ov rfl) rfl rfl rfl tS127 rfl) ?_
   obtain ⟨y3, h_y3, h⟩ := bnd h
   refine R_q _ rfl (v_call (ok_clone3 h_y3) (.cons (ov rfl) (.b rfl) <| .nil)) ?_
   refine R_q _ rfl (v_fieldP (ov rfl) rfl rfl tF129_4) ?_
   refine R_w _ _ rfl (w_store (ov rfl) (ov rfl) (cells_scal tS127) rfl rfl rfl (Nat.le_of_ble_eq_true rfl) (cell1_all rfl) rfl) ?_
   refine R_nil ?_
   refine T_keep (kc 1 rfl <| kc 5 rfl <| kc 6 rfl <| kc 7 rfl <| kc 9 rfl <| kc 10 rfl <| kc 11 rfl <| kc 12 rfl <| kc 18 rfl <| kc 19 rfl <| kc 20 rfl <| kn) rfl ?_
   refine T_draw (cw := md0) (by kernel_rfl) ?_
   refine D_q0 0 _ rfl (by kernel_rfl) rfl rfl (v_fieldP (ov rfl) rfl rfl tF65_1) ?_
   refine D_q0 1 _ rfl (by kernel_rfl) rfl rfl (v_loadS (ov rfl) rfl rfl rfl tS63 rfl) ?_
   refine D_q0 2 _ rfl (by kernel_rfl) rfl rfl (v_loadA (ov rfl) rfl rfl rfl tA55 rfl rfl) ?_
   refine D_q0 3 _ rfl (by kernel_rfl) rfl rfl (v_loadA (ov rfl) rfl rfl rfl tA129 rfl rfl) ?_
   refine D_q0 4 _ rfl (by kernel_rfl) rfl rfl (v_fieldP (ov rfl) rfl rfl tF28_1) ?_
   refine D_q0 5 _ rfl (by kernel_rfl) rfl rfl (v_loadS (ov rfl) rfl rfl rfl tS3 rfl) ?_
   refine D_q0 6 _ rfl (by kernel_rfl) rfl rfl (v_move (ov rfl)) ?_
   obtain ⟨y4, h_y4, h⟩ := bnd h
   refine D_q0 7 _ rfl (by kernel_rfl) rfl rfl (v_call (ok_panel_advancedMemo h_y4) (.cons (ov rfl) (.aggB rfl) <| .cons (ov rfl) (.aggB rfl) <| .cons (ov rfl) (.b rfl) <| .cons (ov rfl) (.b rfl) <| .nil)) ?_
   refine D_q0 8 (.sl 129 (List.map R129 ([y4] : List api_Memo))) rfl (by kernel_rfl) rfl rfl (v_lit tL63 (.cons (cva (ov rfl)) rfl (pwD rfl) <| .nil) rfl rfl) ?_
   obtain ⟨l2, h_l2, h⟩ := bnd h
   refine D_one 9 _ _ rfl (by kernel_rfl) rfl rfl (fun h => by cases h) (fun h => by cases h) (w_appendG (ov rfl) (slv_sl (ov rfl) tZ_129) tL63 rfl rfl rfl (fun _ => cell1_all rfl) rfl h_l2) ?_
   refine D_q0 10 _ rfl (by kernel_rfl) rfl rfl (v_fieldP (ov rfl) rfl rfl tF65_1) ?_
   refine D_one 11 _ _ rfl (by kernel_rfl) rfl rfl (fun h => by cases h) (fun h => by cases h) (w_store (ov rfl) (ov rfl) (cells_scal tS63) rfl rfl rfl (Nat.le_of_ble_eq_true rfl) (cell1_all rfl) rfl) ?_
   refine D_done (by kernel_rfl) ?_
   refine T_keep (kc 1 rfl <| kc 5 rfl <| kc 6 rfl <| kc 7 rfl <| kc 18 rfl <| kc 19 rfl <| kc 20 rfl <| kn) rfl ?_
   refine T_reg ?_
   refine R_q _ rfl (v_add (ov rfl) (ov rfl) rfl) ?_
   refine R_q _ rfl (v_move (ov rfl)) ?_
   refine R_nil ?_
   exact ⟨(l2, (i64 (i + 1))), h, Ent.sel [some 0, some 1, some 2] (sd 1 rfl rfl <| sd 5 rfl rfl <| sr 6 rfl (.ptr _ _ _ rfl) <| sr 7 rfl (.ptr _ _ _ rfl) <| sd 18 rfl rfl <| sd 19 rfl rfl <| sd 20 rfl rfl <| sn) (.cons rfl (ro1 (by exact tZ_65.symm) (rld rfl)) <| .cons rfl (ro1 (by exact tZ_65.symm) (rlc (.dat rfl) <| rlc (.own _ rfl) <| rln)) <| .cons rfl (roM D129) <| .nil) rfl rfl⟩
  ·
   refine T_exit ?_
   rw [lx h] at ho1
   replace h := ho1
   exact ⟨Memos2, h, Ent.sel [some 0, some 1, some 2] (sr 6 rfl (.ptr _ _ _ rfl) <| sr 7 rfl (.ptr _ _ _ rfl) <| sn) (.cons rfl (ro1 (by exact tZ_65.symm) (rld rfl)) <| .cons rfl (ro1 (by exact tZ_65.symm) (rlc (.dat rfl) <| rlc (.own _ rfl) <| rln)) <| .cons rfl (roM D129) <| .nil) rfl rfl⟩
 ·
  obtain ⟨Memos, rfl⟩ : ∃ x, x = j := ⟨_, rfl⟩
  replace h := t1i h
  refine t1T ?_
  refine T_seq (T_reg ?_)
  refine R_q _ rfl (v_loadA (ov rfl) rfl rfl rfl tA65 rfl rfl) ?_
  refine R_w _ _ rfl (w_store (ov rfl) (ov rfl) (cells_agg tA65 rfl) rfl rfl rfl (Nat.le_of_ble_eq_true rfl) (cell1_all rfl) rfl) ?_
  refine R_nil ?_
  obtain rfl := rt (v := (api_PanelState.mk (i64 (s.Frame + 1)) Memos)) h
  refine T_ret ?_
  exact retg [some 2] rfl (.cons (.agg rfl rfl rfl rfl tA65 rfl rfl) <| .nil) (.cons rfl (roM D129) <| .nil) rfl rfl (rAgg (rlc (.dat rfl) <| rlc (.own _ rfl) <| rln))

theorem ok_slices_BinarySearchFunc_api_PanelState_api_PanelState_int {x : List api_PanelState} {target : Int} {cmp : api_PanelState → Int → Option Int} {r : Int × Bool} {cmp_f : FuncId} {cmp_c : List AV} (cmp_d : cmp_c.all datB = true) (cmp_h : ∀ (z0 : api_PanelState) (z1 : Int) z, cmp z0 z1 = some z → CSpec Tryz.prog gl0 cmp_f ([.agg [.int .i64 z0.Frame, .sl 129 (List.map R129 z0.Memos)], .int .i64 z1] ++ cmp_c) (.int .i64 z)) (h : slices_BinarySearchFunc_api_PanelState_api_PanelState_int x target cmp = some r) :
  CSpec Tryz.prog gl0 140 [.sl 65 (List.map R65 x), .int .i64 target, .fn cmp_f cmp_c] (.tuple [.int .i64 r.1, .bool r.2]) := by
 unfold slices_BinarySearchFunc_api_PanelState_api_PanelState_int at h
 replace h := bnd0 h
 refine spec_of (by kernel_rfl) Tryz.func140 rfl rfl ?_
 intro w0 A
 refine T_seq (T_reg ?_)
 refine R_q _ rfl (v_assign (ov rfl)) ?_
 refine R_q _ rfl (v_assign (ov rfl)) ?_
 refine R_nil ?_
 refine T_keep (kc 0 rfl <| kc 1 rfl <| kc 2 rfl <| kn) rfl ?_
 refine T_seq (T_reg ?_)
 refine R_q _ rfl (v_move (ov rfl)) ?_
 refine R_q _ rfl (v_len (slv_sl (ov rfl) tZ_65) tL111 (len_map _ _)) ?_
 refine R_q _ rfl (v_assign (ov rfl)) ?_
 refine R_nil ?_
 refine T_keep (kc 0 rfl <| kc 1 rfl <| kc 2 rfl <| kc 8 rfl <| kn) rfl ?_
 refine T_seq (T_reg ?_)
 refine R_q _ rfl (v_move (ov rfl)) ?_
 refine R_q _ rfl (v_assign (ov rfl)) ?_
 refine R_q _ rfl (v_assign (ov rfl)) ?_
 refine R_nil ?_
 refine T_joinG id (t1 fun i => ⟨[(0, .sl 65 (List.map R65 x)), (1, .int .i64 target), (2, .fn cmp_f cmp_c), (8, .int .i64 (x.length : Int)), (9, .int .i64 i)], []⟩) h (fun h => ?_) (fun j h => ?_)
 ·
  refine T_block ?_
  obtain ⟨r1, hl1, ho1⟩ := bndL h
  refine T_loopG _ (t2 fun i2 j => ⟨[(0, .sl 65 (List.map R65 x)), (1, .int .i64 target), (2, .fn cmp_f cmp_c), (8, .int .i64 (x.length : Int)), (9, .int .i64 i2), (10, .int .i64 j)], []⟩) _ hl1 (Ent.sel [] (sd 0 rfl rfl <| sd 1 rfl rfl <| sr 2 rfl (rFn (rld cmp_d)) <| sd 8 rfl rfl <| sd 9 rfl rfl <| sd 10 rfl rfl <| sn) (.nil) rfl rfl) (fun n1 s1 h => ?_)
  obtain ⟨i2, j⟩ := s1
  replace h := t2i h
  refine t2T ?_
  unfold slices_BinarySearchFunc_api_PanelState_api_PanelState_int_L1 at h
  refine T_seq ?_
  refine T_seq (T_reg ?_)
  refine R_q _ rfl (v_move (ov rfl)) ?_
  refine R_q _ rfl (v_move (ov rfl)) ?_
  refine R_q _ rfl (v_lss (ov rfl) (ov rfl)) ?_
  refine R_nil ?_
  refine T_keep (kc 0 rfl <| kc 1 rfl <| kc 2 rfl <| kc 8 rfl <| kc 9 rfl <| kc 10 rfl <| kc 17 rfl <| kn) rfl ?_
  refine T_if h rfl (fun b17 h => ?_) (fun b17 h => ?_)
  ·
   refine T_skip ?_
   refine T_block ?_
   refine T_keep (kc 0 rfl <| kc 1 rfl <| kc 2 rfl <| kc 8 rfl <| kc 9 rfl <| kc 10 rfl <| kn) rfl ?_
   refine T_seq (T_reg ?_)
   refine R_q _ rfl (v_move (ov rfl)) ?_
   refine R_q _ rfl (v_move (ov rfl)) ?_
   refine R_q _ rfl (v_add (ov rfl) (ov rfl) rfl) ?_
   refine R_q _ rfl (v_conv (ov rfl) tI3 tI189 rfl) ?_
   obtain ⟨q, h_q, h⟩ := bnd h
   refine R_q _ rfl (v_shrG (ov rfl) (ov rfl) h_q) ?_
   refine R_q _ rfl (v_conv (ov rfl) tI189 tI3 rfl) ?_
   refine R_q _ rfl (v_assign (ov rfl)) ?_
   refine R_nil ?_
   refine T_keep (kc 0 rfl <| kc 1 rfl <| kc 2 rfl <| kc 8 rfl <| kc 9 rfl <| kc 10 rfl <| kc 11 rfl <| kn) rfl ?_
   refine T_seq (T_reg ?_)
   refine R_q _ rfl (v_move (ov rfl)) ?_
   refine R_q _ rfl (v_move (ov rfl)) ?_
   refine R_q _ rfl (v_move (ov rfl)) ?_
   obtain ⟨x2, h_x2, h⟩ := bnd h
   refine R_q _ rfl (v_ixSG (ov rfl) (ov rfl) tL111 h_x2) ?_
   refine R_q _ rfl (v_loadA_r (ov rfl) tA65 rfl rfl) ?_
   refine R_q _ rfl (v_move (ov rfl)) ?_
   obtain ⟨y, h_y, h⟩ := bnd h
   refine R_q _ rfl (v_callC (ov rfl) cmp_d (cmp_h _ _ _ h_y) (.cons (ov rfl) (.aggB rfl) <| .cons (ov rfl) (.b rfl) <| .nil)) ?_
   refine R_q _ rfl (v_lss (ov rfl) (ov rfl)) ?_
   refine R_nil ?_
   refine T_keep (kc 0 rfl <| kc 1 rfl <| kc 2 rfl <| kc 8 rfl <| kc 9 rfl <| kc 10 rfl <| kc 11 rfl <| kc 31 rfl <| kn) rfl ?_
   refine T_if h rfl (fun b31 h => ?_) (fun b31 h => ?_)
   ·
    refine T_keep (kc 0 rfl <| kc 1 rfl <| kc 2 rfl <| kc 8 rfl <| kc 9 rfl <| kc 10 rfl <| kc 11 rfl <| kn) rfl ?_
    refine T_reg ?_
    refine R_q _ rfl (v_move (ov rfl)) ?_
    refine R_q _ rfl (v_add (ov rfl) (ov rfl) rfl) ?_
    refine R_q _ rfl (v_assign (ov rfl)) ?_
    refine R_nil ?_
    exact ⟨((i64 ((i64 q) + 1)), j), h, Ent.sel [] (sd 0 rfl rfl <| sd 1 rfl rfl <| sr 2 rfl (rFn (rld cmp_d)) <| sd 8 rfl rfl <| sd 9 rfl rfl <| sd 10 rfl rfl <| sn) (.nil) rfl rfl⟩
   ·
    refine T_keep (kc 0 rfl <| kc 1 rfl <| kc 2 rfl <| kc 8 rfl <| kc 9 rfl <| kc 10 rfl <| kc 11 rfl <| kn) rfl ?_
    refine T_reg ?_
    refine R_q _ rfl (v_move (ov rfl)) ?_
    refine R_q _ rfl (v_assign (ov rfl)) ?_
    refine R_nil ?_
    exact ⟨(i2, (i64 q)), h, Ent.sel [] (sd 0 rfl rfl <| sd 1 rfl rfl <| sr 2 rfl (rFn (rld cmp_d)) <| sd 8 rfl rfl <| sd 9 rfl rfl <| sd 10 rfl rfl <| sn) (.nil) rfl rfl⟩
  ·
   refine T_exit ?_
   rw [lx h] at ho1
   replace h := ho1
   exact ⟨i2, h, Ent.sel [] (sd 0 rfl rfl <| sd 1 rfl rfl <| sr 2 rfl (rFn (rld cmp_d)) <| sd 8 rfl rfl <| sd 9 rfl rfl <| sn) (.nil) rfl rfl⟩
 ·
  obtain ⟨i, rfl⟩ : ∃ x, x = j := ⟨_, rfl⟩
  replace h := t1i h
  refine t1T ?_
  refine T_seq (T_reg ?_)
  refine R_q _ rfl (v_move (ov rfl)) ?_
  refine R_q _ rfl (v_move (ov rfl)) ?_
  refine R_q _ rfl (v_move (ov rfl)) ?_
  refine R_q _ rfl (v_lss (ov rfl) (ov rfl)) ?_
  refine R_q _ rfl (v_move (ov rfl)) ?_
  refine R_q _ rfl (.guarded ((decide (i < (x.length : Int))) == true) rfl rfl rfl rfl fun h => v_move (ov rfl)) ?_
  refine R_q _ rfl (.guarded ((decide (i < (x.length : Int))) == true) rfl rfl rfl rfl fun h => v_move (ov rfl)) ?_
  refine R_q _ rfl (.guarded ((decide (i < (x.length : Int))) == true) rfl rfl rfl rfl fun h => v_move (ov rfl)) ?_
  obtain ⟨x3, h_x3, h⟩ := bnd h
  refine R_q _ rfl (.guarded ((decide (i < (x.length : Int))) == true) rfl rfl rfl rfl fun h => v_ixSG (ow rfl h) (ow rfl h) tL111 (gdT h_x3 h)) ?_
  refine R_q _ rfl (.guarded ((decide (i < (x.length : Int))) == true) rfl rfl rfl rfl fun h => v_loadA_r (ow rfl h) tA65 rfl rfl) ?_
  refine R_q _ rfl (.guarded ((decide (i < (x.length : Int))) == true) rfl rfl rfl rfl fun h => v_move (ov rfl)) ?_
  obtain ⟨y2, h_y2, h⟩ := bnd h
  refine R_q _ rfl (.guarded ((decide (i < (x.length : Int))) == true) rfl rfl rfl rfl fun h => v_callC (ow rfl h) cmp_d (cmp_h _ _ _ (gdT h_y2 h)) (.cons (ow rfl h) (.aggB rfl) <| .cons (ow rfl h) (.b rfl) <| .nil)) ?_
  refine R_q _ rfl (.guarded ((decide (i < (x.length : Int))) == true) rfl rfl rfl rfl fun h => v_eql (ow rfl h) (ov rfl)) ?_
  refine R_q _ rfl (v_and (ov rfl) (fun hp => ow rfl (gT hp))) ?_
  refine R_q _ rfl (v_assign (ov rfl)) ?_
  refine R_q _ rfl (v_assign (ov rfl)) ?_
  refine R_nil ?_
  obtain rfl := rt (v := (i, ((decide (i < (x.length : Int))) && (decide (y2 = 0))))) h
  refine T_ret (retq ?_ (.two (.tmp rfl (Dat.view (.b rfl))) (.tmp rfl (Dat.view (.b rfl)))))
  rfl

theorem ok_panel_Replay_keptAt_1 {s : api_PanelState} {frame : Int} {r : Int} (h : panel_Replay_keptAt_1 s frame = some r) :
  CSpec Tryz.prog gl0 141 [.agg [.int .i64 s.Frame, .sl 129 (List.map R129 s.Memos)], .int .i64 frame] (.int .i64 r) := by
 unfold panel_Replay_keptAt_1 at h
 replace h := bnd0 h
 refine spec_of (by kernel_rfl) Tryz.func141 rfl rfl ?_
 intro w0 A
 refine T_seq (T_reg ?_)
 refine R_q _ rfl (v_boxD (cva (ov rfl)) rfl tZ_65 rfl) ?_
 refine R_q _ rfl (v_assign (ov rfl)) ?_
 refine R_nil ?_
 refine T_keep (kc 1 rfl <| kc 2 rfl <| kc 4 rfl <| kn) rfl ?_
 refine T_seq (T_reg ?_)
 refine R_q _ rfl (v_fieldR (ov rfl) tF65_0) ?_
 refine R_q _ rfl (v_loadS_r (ov rfl) tS3 rfl) ?_
 refine R_q _ rfl (v_move (ov rfl)) ?_
 refine R_q _ rfl (v_sub (ov rfl) (ov rfl) rfl) ?_
 refine R_q _ rfl (v_assign (ov rfl)) ?_
 refine R_nil ?_
 obtain rfl := rt (v := (i64 (s.Frame - frame))) h
 refine T_ret (retq ?_ (.one (.tmp rfl (Dat.view (.b rfl)))))
 rfl

theorem ok_panel_Replay_keptAt_wddooo {r_ : panel_Replay} {frame : Int} {r : Int × Bool} (h : panel_Replay_keptAt r_ frame = some r) :
  GSpec Tryz.prog gl0 80 [.ptr 0 1 0 0, .int .i64 frame] [some ⟨114, [[.sl 55 (List.map R55 r_.p.Instruments), .sl 26 (List.map R26 r_.l), .int .i64 r_.keep, .int .i64 r_.state.Frame, .own 1 r_.state.Memos.length, .own 2 r_.kept.length, .own 3 r_.marks.length]]⟩, some ⟨129, List.map R129 r_.state.Memos⟩, some ⟨65, List.map R65 r_.kept⟩, some ⟨137, List.map R137 r_.marks⟩] (.tuple [.int .i64 r.1, .bool r.2]) [some ⟨114, [[.sl 55 (List.map R55 r_.p.Instruments), .sl 26 (List.map R26 r_.l), .int .i64 r_.keep, .int .i64 r_.state.Frame, .own 4 r_.state.Memos.length, .own 5 r_.kept.length, .own 6 r_.marks.length]]⟩, none, none, none, some ⟨129, List.map R129 r_.state.Memos⟩, some ⟨65, List.map R65 r_.kept⟩, some ⟨137, List.map R137 r_.marks⟩] := by
 unfold panel_Replay_keptAt at h
 replace h := bnd0 h
 refine gspec_of (by kernel_rfl) Tryz.func80 rfl rfl ?_
 intro w0 A W φ0
 refine T_ent (Ent.sel [some 0, some 1, some 2, some 3, some 1, some 2, some 3] (sr 0 rfl (.ptr (r' := 0) _ _ _ rfl) <| sd 1 rfl rfl <| sn) (.cons rfl (ro1 (by exact tZ_114.symm) (rlc (.dat rfl) <| rlc (.dat rfl) <| rlc (.dat rfl) <| rlc (.dat rfl) <| rlc (.own (r' := 4) _ rfl) <| rlc (.own (r' := 5) _ rfl) <| rlc (.own (r' := 6) _ rfl) <| rln)) <| .dead <| .dead <| .dead <| .cons rfl (roM D129) <| .cons rfl (roM D65) <| .cons rfl (roM D137) <| .nil) rfl rfl) ?_
 refine T_seq (T_reg ?_)
 refine R_q _ rfl (v_assign (ov rfl)) ?_
 refine R_q _ rfl (v_assign (ov rfl)) ?_
 refine R_nil ?_
 refine T_seq (T_reg ?_)
 refine R_q _ rfl (v_move (ov rfl)) ?_
 refine R_q _ rfl (v_nilCheckP (ov rfl) rfl rfl) ?_
 refine R_q _ rfl (v_fieldP (ov rfl) rfl rfl tF114_4) ?_
 refine R_q _ rfl (v_loadS (ov rfl) rfl rfl rfl tS111 rfl) ?_
 refine R_q _ rfl (v_move (ov rfl)) ?_
 obtain ⟨y, h_y, h⟩ := bnd h
 refine R_q _ rfl (v_callB (ok_slices_BinarySearchFunc_api_PanelState_api_PanelState_int rfl (fun z0 z1 _ hz => ok_panel_Replay_keptAt_1 hz) h_y) (.tuple (by simp only [List.mem_cons, List.not_mem_nil, or_false, forall_eq_or_imp, forall_eq]; exact ⟨.int, .bool⟩)) (.cons (ov rfl) (View.ownM rfl rfl D65) <| .cons (ov rfl) (Dat.view (.b rfl)) <| .cons (ov rfl) (Dat.view (.fn)) <| .nil)) ?_
 refine R_q _ rfl (v_extract (ov rfl) rfl) ?_
 refine R_q _ rfl (v_extract (ov rfl) rfl) ?_
 refine R_q _ rfl (v_assign (ov rfl)) ?_
 refine R_q _ rfl (v_assign (ov rfl)) ?_
 refine R_nil ?_
 obtain rfl := rt (v := (y.1, y.2)) h
 refine T_ret ?_
 exact retg [some 0, some 1, some 2, some 3, some 4, some 5, some 6] rfl (.cons (.tmp rfl) <| .cons (.tmp rfl) <| .nil) (.cons rfl (ro1 (by exact tZ_114.symm) (rlc (.dat rfl) <| rlc (.dat rfl) <| rlc (.dat rfl) <| rlc (.dat rfl) <| rlc (.own _ rfl) <| rlc (.own _ rfl) <| rlc (.own _ rfl) <| rln)) <| .dead <| .dead <| .dead <| .cons rfl (roM D129) <| .cons rfl (roM D65) <| .cons rfl (roM D137) <| .nil) rfl rfl (rTup (rlc (.dat rfl) <| rlc (.dat rfl) <| rln))

theorem ok_clone129_o {xs r : List api_Memo} (h : clone xs = some r) :
  GSpec Tryz.prog gl0 139 [.sl 129 (List.map R129 xs)] [] (.own 0 r.length) [some ⟨129, List.map R129 r⟩] := by
 have h2 : app [] xs = some r := h
 refine gspec_of (by kernel_rfl) Tryz.func139 rfl rfl ?_
 intro w0 A W φ0
 refine T_seq (T_reg ?_)
 refine R_q _ rfl (v_assign (ov rfl)) ?_
 refine R_nil ?_
 refine T_seq (T_seq (T_reg ?_))
 refine R_q _ rfl (v_move (ov rfl)) ?_
 refine R_eqnil (ov rfl) tIsl63 rfl (fun b hb => ?_)
 refine R_nil ?_
 refine T_cond rfl (fun hb2 => ?_) (fun hb2 => ?_)
 ·
  obtain rfl : xs = [] := by simpa using hb hb2
  obtain rfl : r = [] := by simpa [app] using h2.symm
  refine T_seq (T_reg ?_)
  refine R_q _ rfl (v_assign (ov rfl)) ?_
  refine R_nil ?_
  refine T_ret ?_
  exact retg [none] rfl (.cons (.tmp rfl) .nil) (.row 129 .nil) rfl rfl (.row rfl)
 ·
  refine T_skip ?_
  refine T_seq (T_reg ?_)
  refine R_w _ _ rfl (w_litG (r := 0) (xs := []) (f := R129) rfl tL63 .nil rfl rfl rfl) ?_
  refine R_q _ rfl (v_move (ov rfl)) ?_
  refine R_w _ _ rfl (w_appendZ (ov rfl) (slv_sl (ov rfl) tZ_129) tL63 rfl rfl (fun _ => cell1_all rfl) rfl h2) ?_
  refine R_q _ rfl (v_assign (ov rfl)) ?_
  refine R_nil ?_
  refine T_ret ?_
  exact retg [some 0] rfl (.cons (.tmp rfl) .nil) (.cons rfl (roM D129) .nil) rfl rfl (.own _ rfl)

theorem ok_panel_copyState {s : api_PanelState} {r : api_PanelState} (h : panel_copyState s = some r) :
  CSpec Tryz.prog gl0 79 [.agg [.int .i64 s.Frame, .sl 129 (List.map R129 s.Memos)]] (.agg [.int .i64 r.Frame, .sl 129 (List.map R129 r.Memos)]) := by
 unfold panel_copyState at h
 replace h := bnd0 h
 refine spec_of (by kernel_rfl) Tryz.func79 rfl rfl ?_
 intro w0 A
 refine T_seq (T_reg ?_)
 refine R_w _ _ rfl (w_box 0 rfl (ov rfl) tA65 rfl) ?_
 refine R_w _ _ rfl (w_alloc (row := [_, _]) 1 rfl tZ65 rfl tZ_65) ?_
 refine R_nil ?_
 refine T_keep (kc 1 rfl <| kc 2 rfl <| kn) rfl ?_
 refine T_seq (T_reg ?_)
 refine R_q _ rfl (v_fieldP (ov rfl) rfl rfl tF65_1) ?_
 refine R_q _ rfl (v_loadS (ov rfl) rfl rfl rfl tS63 rfl) ?_
 obtain ⟨y, h_y, h⟩ := bnd h
 refine R_w _ _ rfl (w_callG [] (ok_clone129_o h_y) (.cons (ov rfl) (.dat rfl) <| .nil) (.nil) rfl (.keep rfl rfl <| .keep rfl rfl <| .lent 0 (.inr ⟨Nat.le_of_ble_eq_true rfl, rfl⟩) rfl (roM D129) <| .nil) rfl rfl (.own _ (.inr ⟨Nat.le_of_ble_eq_true rfl, rfl⟩))) ?_
 refine R_q _ rfl (v_fieldP (ov rfl) rfl rfl tF65_1) ?_
 refine R_w _ _ rfl (w_store (ov rfl) (ov rfl) (cells_scal tS63) rfl rfl rfl (Nat.le_of_ble_eq_true rfl) (cell1_all rfl) rfl) ?_
 refine R_nil ?_
 refine T_joinG id (t1 fun Memos => ⟨[(1, .ptr 0 1 0 0), (2, .ptr 2 1 0 0)], [some ⟨65, [[.int .i64 s.Frame, .own 1 Memos.length]]⟩, some ⟨129, List.map R129 Memos⟩, some ⟨65, [[.int .i64 0, .nils]]⟩]⟩) h (fun h => ?_) (fun j h => ?_)
 ·
  refine T_keep (kc 1 rfl <| kc 2 rfl <| kn) rfl ?_
  refine T_seq (T_reg ?_)
  refine R_q _ rfl (v_fieldP (ov rfl) rfl rfl tF65_1) ?_
  refine R_q _ rfl (v_loadS (ov rfl) rfl rfl rfl tS63 rfl) ?_
  refine R_q _ rfl (v_lenO (ov rfl) rfl rfl tL63) ?_
  refine R_q _ rfl (v_move (ov rfl)) ?_
  refine R_nil ?_
  refine T_block ?_
  obtain ⟨r1, hl1, ho1⟩ := bndL h
  refine T_loopG _ (t2 fun Memos2 i => ⟨[(1, .ptr 0 1 0 0), (2, .ptr 2 1 0 0), (10, .int .i64 (y.length : Int)), (11, .int .i64 i)], [some ⟨65, [[.int .i64 s.Frame, .own 1 Memos2.length]]⟩, some ⟨129, List.map R129 Memos2⟩, some ⟨65, [[.int .i64 0, .nils]]⟩]⟩) _ hl1 (Ent.sel [some 0, some 2, some 1] (sr 1 rfl (.ptr _ _ _ rfl) <| sr 2 rfl (.ptr _ _ _ rfl) <| sd 10 rfl rfl <| sd 11 rfl rfl <| sn) (.cons rfl (ro1 (by exact tZ_65.symm) (rlc (.dat rfl) <| rlc (.own _ rfl) <| rln)) <| .cons rfl (roM D129) <| .cons rfl (ro1 (by exact tZ_65.symm) (rld rfl)) <| .nil) rfl rfl) (fun n1 s1 h => ?_)
  obtain ⟨Memos2, i⟩ := s1
  replace h := t2i h
  refine t2T ?_
  unfold panel_copyState_L1 at h
  refine T_seq (T_reg ?_)
  refine R_q _ rfl (v_lss (ov rfl) (ov rfl)) ?_
  refine R_nil ?_
  refine T_seq ?_
  refine T_if h rfl (fun b12 h => ?_) (fun b12 h => ?_)
  ·
   refine T_skip ?_
   refine T_seq ?_
   refine T_block ?_
   refine T_keep (kc 1 rfl <| kc 2 rfl <| kc 10 rfl <| kc 11 rfl <| kn) rfl ?_
   refine T_seq (T_reg ?_)
   refine R_q _ rfl (v_move (ov rfl)) ?_
   refine R_q _ rfl (v_assign (ov rfl)) ?_
   refine R_nil ?_
   refine T_keep (kc 1 rfl <| kc 2 rfl <| kc 3 rfl <| kc 10 rfl <| kc 11 rfl <| kn) rfl ?_
   refine T_draw (cw := md0) (by kernel_rfl) ?_
   refine D_q0 0 _ rfl (by kernel_rfl) rfl rfl (v_fieldP (ov rfl) rfl rfl tF65_1) ?_
   refine D_q0 1 _ rfl (by kernel_rfl) rfl rfl (v_loadS (ov rfl) rfl rfl rfl tS63 rfl) ?_
   refine D_q0 2 _ rfl (by kernel_rfl) rfl rfl (v_move (ov rfl)) ?_
   refine D_q0 3 _ rfl (by kernel_rfl) rfl rfl (v_fieldP (ov rfl) rfl rfl tF65_1) ?_
   refine D_q0 4 _ rfl (by kernel_rfl) rfl rfl (v_loadS (ov rfl) rfl rfl rfl tS63 rfl) ?_
   refine D_q0 5 _ rfl (by kernel_rfl) rfl rfl (v_move (ov rfl)) ?_
   obtain ⟨x, h_x, h⟩ := bnd h
   refine D_q0 6 _ rfl (by kernel_rfl) rfl rfl (v_ixOG (ov rfl) (ov rfl) tL63 rfl rfl h_x) ?_
   refine D_q0 7 _ rfl (by kernel_rfl) rfl rfl (v_fieldPR (ov rfl) rfl rfl tF129_4) ?_
   refine D_q0 8 _ rfl (by kernel_rfl) rfl rfl (v_loadSR (ov rfl) rfl rfl h_x tS127 rfl) ?_
   obtain ⟨y2, h_y2, h⟩ := bnd h
   refine D_q0 9 _ rfl (by kernel_rfl) rfl rfl (v_call (ok_clone3 h_y2) (.cons (ov rfl) (.b rfl) <| .nil)) ?_
   obtain ⟨x2, h_x2, h⟩ := bnd h
   refine D_q0 10 _ rfl (by kernel_rfl) rfl rfl (v_ixOG (ov rfl) (ov rfl) tL63 rfl rfl h_x2) ?_
   refine D_q0 11 _ rfl (by kernel_rfl) rfl rfl (v_fieldPR (ov rfl) rfl rfl tF129_4) ?_
   refine D_one 12 _ _ rfl (by kernel_rfl) rfl rfl (fun h => by cases h) (fun h => by cases h) (w_storeR (u' := (api_Memo.mk x2.Lit x2.Some x2.N x2.Count y2)) (ov rfl) (ov rfl) (cells_scal tS127) rfl rfl h_x2 rfl (cell1_all rfl) rfl) ?_
   refine D_done (by kernel_rfl) ?_
   refine T_keep (kc 1 rfl <| kc 2 rfl <| kc 10 rfl <| kc 11 rfl <| kn) rfl ?_
   refine T_reg ?_
   refine R_q _ rfl (v_add (ov rfl) (ov rfl) rfl) ?_
   refine R_q _ rfl (v_move (ov rfl)) ?_
   refine R_nil ?_
   exact ⟨((Memos2.set i.toNat (api_Memo.mk x2.Lit x2.Some x2.N x2.Count y2)), (i64 (i + 1))), h, Ent.sel [some 0, some 1, some 2] (sr 1 rfl (.ptr _ _ _ rfl) <| sr 2 rfl (.ptr _ _ _ rfl) <| sd 10 rfl rfl <| sd 11 rfl rfl <| sn) (.cons rfl (ro1 (by exact tZ_65.symm) (rlc (.dat rfl) <| rlc (ownE (Eq.symm ((List.length_set ..).trans rfl)) rfl) <| rln)) <| .cons rfl (roM D129) <| .cons rfl (ro1 (by exact tZ_65.symm) (rld rfl)) <| .nil) rfl rfl⟩
  ·
   refine T_exit ?_
   rw [lx h] at ho1
   replace h := ho1
   exact ⟨Memos2, h, Ent.sel [some 0, some 1, some 2] (sr 1 rfl (.ptr _ _ _ rfl) <| sr 2 rfl (.ptr _ _ _ rfl) <| sn) (.cons rfl (ro1 (by exact tZ_65.symm) (rlc (.dat rfl) <| rlc (.own _ rfl) <| rln)) <| .cons rfl (roM D129) <| .cons rfl (ro1 (by exact tZ_65.symm) (rld rfl)) <| .nil) rfl rfl⟩
 ·
  obtain ⟨Memos, rfl⟩ : ∃ x, x = j := ⟨_, rfl⟩
  replace h := t1i h
  refine t1T ?_
  refine T_seq (T_reg ?_)
  refine R_q _ rfl (v_loadA (ov rfl) rfl rfl rfl tA65 rfl rfl) ?_
  refine R_w _ _ rfl (w_store (ov rfl) (ov rfl) (cells_agg tA65 rfl) rfl rfl rfl (Nat.le_of_ble_eq_true rfl) (cell1_all rfl) rfl) ?_
  refine R_nil ?_
  obtain rfl := rt (v := (api_PanelState.mk s.Frame Memos)) h
  refine T_ret (retq ?_ (.one (.agg rfl rfl rfl rfl tA65 rfl rfl (.cons (Dat.view (.b rfl)) <| .cons (View.ownM rfl rfl D129) <| .nil))))
  rfl

theorem ok_slices_Insert_api_PanelState_api_PanelState_o {s : List api_PanelState} {i : Int} {v : List api_PanelState} {r : (List api_PanelState)} (h : slices_Insert_api_PanelState_api_PanelState s i v = some r) :
  GSpec Tryz.prog gl0 142 [.own 0 s.length, .int .i64 i, .sl 65 (List.map R65 v)] [some ⟨65, List.map R65 s⟩] (.own 0 r.length) [some ⟨65, List.map R65 r⟩] := by
 unfold slices_Insert_api_PanelState_api_PanelState at h
 replace h := bnd0 h
 refine gspec_of (by kernel_rfl) Tryz.func142 rfl rfl ?_
 intro w0 A W φ0
 refine T_seq (T_reg ?_)
 refine R_q _ rfl (v_assign (ov rfl)) ?_
 refine R_nil ?_
 refine T_keep (kc 0 rfl <| kc 1 rfl <| kc 2 rfl <| kn) rfl ?_
 refine T_seq (T_reg ?_)
 refine R_q _ rfl (v_move (ov rfl)) ?_
 refine R_q _ rfl (v_move (ov rfl)) ?_
 obtain ⟨l, h_l, h⟩ := bnd h
 refine R_q .any rfl (v_sliceO (ov rfl) rfl rfl tL111 (oi (ov rfl)) on h_l) ?_
 refine R_nil ?_
 refine T_keep (kc 0 rfl <| kc 1 rfl <| kc 2 rfl <| kn) rfl ?_
 refine T_seq (T_reg ?_)
 refine R_q _ rfl (v_move (ov rfl)) ?_
 refine R_q _ rfl (v_len (slv_sl (ov rfl) tZ_65) tL111 (len_map _ _)) ?_
 refine R_q _ rfl (v_assign (ov rfl)) ?_
 refine R_nil ?_
 refine T_seq ?_
 refine T_keep (kc 0 rfl <| kc 1 rfl <| kc 2 rfl <| kc 7 rfl <| kn) rfl ?_
 refine T_seq (T_reg ?_)
 refine R_q _ rfl (v_move (ov rfl)) ?_
 refine R_q _ rfl (v_eql (ov rfl) (ov rfl)) ?_
 refine R_nil ?_
 refine T_keep (kc 0 rfl <| kc 1 rfl <| kc 2 rfl <| kc 7 rfl <| kc 16 rfl <| kn) rfl ?_
 refine T_if h rfl (fun b16 h => ?_) (fun b16 h => ?_)
 ·
  refine T_keep (kc 0 rfl <| kn) rfl ?_
  refine T_seq (T_reg ?_)
  refine R_q _ rfl (v_move (ov rfl)) ?_
  refine R_q _ rfl (v_assign (ov rfl)) ?_
  refine R_nil ?_
  obtain rfl := rt (v := s) h
  refine T_ret ?_
  exact retg [some 0] rfl (.cons (.tmp rfl) <| .nil) (.cons rfl (roM D65) <| .nil) rfl rfl (.own _ rfl)
 ·
  refine T_skip ?_
  refine T_keep (kc 0 rfl <| kc 1 rfl <| kc 2 rfl <| kc 7 rfl <| kn) rfl ?_
  refine T_seq (T_reg ?_)
  refine R_q _ rfl (v_move (ov rfl)) ?_
  refine R_q _ rfl (v_lenO (ov rfl) rfl rfl tL111) ?_
  refine R_q _ rfl (v_assign (ov rfl)) ?_
  refine R_nil ?_
  refine T_seq ?_
  refine T_keep (kc 0 rfl <| kc 1 rfl <| kc 2 rfl <| kc 7 rfl <| kc 8 rfl <| kn) rfl ?_
  refine T_seq (T_reg ?_)
  refine R_q _ rfl (v_move (ov rfl)) ?_
  refine R_q _ rfl (v_move (ov rfl)) ?_
  refine R_q _ rfl (v_eql (ov rfl) (ov rfl)) ?_
  refine R_nil ?_
  refine T_keep (kc 0 rfl <| kc 1 rfl <| kc 2 rfl <| kc 7 rfl <| kc 8 rfl <| kc 22 rfl <| kn) rfl ?_
  refine T_if h rfl (fun b22 h => ?_) (fun b22 h => ?_)
  ·
   refine T_keep (kc 0 rfl <| kc 2 rfl <| kn) rfl ?_
   refine T_seq (T_reg ?_)
   refine R_q _ rfl (v_move (ov rfl)) ?_
   refine R_q _ rfl (v_move (ov rfl)) ?_
   obtain ⟨l2, h_l2, h⟩ := bnd h
   refine R_w _ _ rfl (w_appendZ (ov rfl) (slv_sl (ov rfl) tZ_65) tL111 rfl rfl (fun _ => cell1_all rfl) rfl h_l2) ?_
   refine R_q _ rfl (v_assign (ov rfl)) ?_
   refine R_nil ?_
   obtain rfl := rt (v := l2) h
   refine T_ret ?_
   exact retg [some 0] rfl (.cons (.tmp rfl) <| .nil) (.cons rfl (roM D65) <| .nil) rfl rfl (.own _ rfl)
  ·
   refine T_skip ?_
   refine T_seq ?_
   exact (noneB h).elim

theorem ok_panel_Replay_advance_v1_wdddoo {r_ : panel_Replay} {n : Int} {r : panel_Replay} (h : panel_Replay_advance_v1 r_ n = some r) :
  GSpec Tryz.prog gl0 81 [.ptr 0 1 0 0, .int .i64 n] [some ⟨114, [[.sl 55 (List.map R55 r_.p.Instruments), .sl 26 (List.map R26 r_.l), .int .i64 r_.keep, .int .i64 r_.state.Frame, .sl 129 (List.map R129 r_.state.Memos), .own 1 r_.kept.length, .own 2 r_.marks.length]]⟩, some ⟨65, List.map R65 r_.kept⟩, some ⟨137, List.map R137 r_.marks⟩] (.tuple []) [some ⟨114, [[.sl 55 (List.map R55 r.p.Instruments), .sl 26 (List.map R26 r.l), .int .i64 r.keep, .int .i64 r.state.Frame, .sl 129 (List.map R129 r.state.Memos), .own 3 r.kept.length, .own 4 r.marks.length]]⟩, none, none, some ⟨65, List.map R65 r.kept⟩, some ⟨137, List.map R137 r.marks⟩] := by
 unfold panel_Replay_advance_v1 at h
 replace h := bnd0 h
 refine gspec_of (by kernel_rfl) Tryz.func81 rfl rfl ?_
 intro w0 A W φ0
 refine T_ent (Ent.sel [some 0, some 1, some 2, some 1, some 2] (sr 0 rfl (.ptr (r' := 0) _ _ _ rfl) <| sd 1 rfl rfl <| sn) (.cons rfl (ro1 (by exact tZ_114.symm) (rlc (.dat rfl) <| rlc (.dat rfl) <| rlc (.dat rfl) <| rlc (.dat rfl) <| rlc (.dat rfl) <| rlc (.own (r' := 3) _ rfl) <| rlc (.own (r' := 4) _ rfl) <| rln)) <| .dead <| .dead <| .cons rfl (roM D65) <| .cons rfl (roM D137) <| .nil) rfl rfl) ?_
 refine T_seq (T_reg ?_)
 refine R_q _ rfl (v_move (ov rfl)) ?_
 refine R_q _ rfl (v_move (ov rfl)) ?_
 refine R_nil ?_
 refine T_block ?_
 obtain ⟨r1, hl1, ho1⟩ := bndL h
 refine T_loopG _ (t3 fun state kept i => ⟨[(0, .ptr 0 1 0 0), (6, .int .i64 n), (7, .int .i64 i)], [some ⟨114, [[.sl 55 (List.map R55 r_.p.Instruments), .sl 26 (List.map R26 r_.l), .int .i64 r_.keep, .int .i64 state.Frame, .sl 129 (List.map R129 state.Memos), .own 3 kept.length, .own 4 r_.marks.length]]⟩, none, none, some ⟨65, List.map R65 kept⟩, some ⟨137, List.map R137 r_.marks⟩]⟩) _ hl1 (Ent.sel [some 0, some 1, some 2, some 3, some 4] (sr 0 rfl (.ptr _ _ _ rfl) <| sd 6 rfl rfl <| sd 7 rfl rfl <| sn) (.cons rfl (ro1 (by exact tZ_114.symm) (rlc (.dat rfl) <| rlc (.dat rfl) <| rlc (.dat rfl) <| rlc (.dat rfl) <| rlc (.dat rfl) <| rlc (.own _ rfl) <| rlc (.own _ rfl) <| rln)) <| .dead <| .dead <| .cons rfl (roM D65) <| .cons rfl (roM D137) <| .nil) rfl rfl) (fun n1 s1 h => ?_)
 obtain ⟨state, kept, i⟩ := s1
 replace h := t3i h
 refine t3T ?_
 unfold panel_Replay_advance_v1_L1 at h
 refine T_seq (T_reg ?_)
 refine R_q _ rfl (v_lss (ov rfl) (ov rfl)) ?_
 refine R_nil ?_
 refine T_seq ?_
 refine T_if h rfl (fun b8 h => ?_) (fun b8 h => ?_)
 ·
  refine T_skip ?_
  refine T_joinG id (t3 fun Frame Memos kept2 => ⟨[(0, .ptr 0 1 0 0), (6, .int .i64 n), (7, .int .i64 i)], [some ⟨114, [[.sl 55 (List.map R55 r_.p.Instruments), .sl 26 (List.map R26 r_.l), .int .i64 r_.keep, .int .i64 Frame, .sl 129 (List.map R129 Memos), .own 3 kept2.length, .own 4 r_.marks.length]]⟩, none, none, some ⟨65, List.map R65 kept2⟩, some ⟨137, List.map R137 r_.marks⟩]⟩) h (fun h => ?_) (fun j h => ?_)
  ·
   refine T_block ?_
   refine T_keep (kc 0 rfl <| kc 6 rfl <| kc 7 rfl <| kn) rfl ?_
   refine T_seq (T_draw (cw := ⟨true, false, [], [], []⟩) (by kernel_rfl) ?_)
   refine D_q0 1 _ rfl (by kernel_rfl) rfl rfl (v_move (ov rfl)) ?_
   refine D_q0 2 _ rfl (by kernel_rfl) rfl rfl (v_nilCheckP (ov rfl) rfl rfl) ?_
   refine D_q0 3 _ rfl (by kernel_rfl) rfl rfl (v_fieldP (ov rfl) rfl rfl tF114_0) ?_
   refine D_q0 4 _ rfl (by kernel_rfl) rfl rfl (v_loadA (ov rfl) rfl rfl rfl tA41 rfl rfl) ?_
   refine D_q0 5 _ rfl (by kernel_rfl) rfl rfl (v_move (ov rfl)) ?_
   refine D_q0 6 _ rfl (by kernel_rfl) rfl rfl (v_nilCheckP (ov rfl) rfl rfl) ?_
   refine D_q0 7 _ rfl (by kernel_rfl) rfl rfl (v_fieldP (ov rfl) rfl rfl tF114_1) ?_
   refine D_q0 8 _ rfl (by kernel_rfl) rfl rfl (v_loadS (ov rfl) rfl rfl rfl tS42 rfl) ?_
   refine D_q0 9 _ rfl (by kernel_rfl) rfl rfl (v_move (ov rfl)) ?_
   refine D_q0 10 _ rfl (by kernel_rfl) rfl rfl (v_nilCheckP (ov rfl) rfl rfl) ?_
   refine D_q0 11 _ rfl (by kernel_rfl) rfl rfl (v_fieldP (ov rfl) rfl rfl tF114_3) ?_
   refine D_q0 12 _ rfl (by kernel_rfl) rfl rfl (v_loadA (ov rfl) rfl rfl rfl tA65 rfl rfl) ?_
   refine D_free 0 _ rfl (by kernel_rfl) rfl rfl (fun hp' => v_move (ov rfl)) ?_
   obtain ⟨y, h_y, h⟩ := bnd h
   refine D_one 13 _ _ rfl (by kernel_rfl) rfl rfl (fun h => by cases h) (fun h => by cases h) (w_callG [] (ok_panel_advance_o h_y) (.cons (ov rfl) (rAgg (rld rfl)) <| .cons (ov rfl) (.dat rfl) <| .cons (ov rfl) (rAgg (rld rfl)) <| .nil) (.nil) rfl (.keep rfl rfl <| .none <| .none <| .keep rfl rfl <| .keep rfl rfl <| .lent 0 (.inr ⟨Nat.le_of_ble_eq_true rfl, rfl⟩) rfl (roM D129) <| .nil) rfl rfl (rAgg (rlc (.dat rfl) <| rlc (.own _ (.inr ⟨Nat.le_of_ble_eq_true rfl, rfl⟩)) <| rln))) ?_
   refine D_q0 14 _ rfl (by kernel_rfl) rfl rfl (v_nilCheckP (ov rfl) rfl rfl) ?_
   refine D_q0 15 _ rfl (by kernel_rfl) rfl rfl (v_fieldP (ov rfl) rfl rfl tF114_3) ?_
   refine D_one 16 _ _ rfl (by kernel_rfl) rfl rfl (fun h => by cases h) (fun h => by cases h) (w_store (ov rfl) (ov rfl) (cells_agg tA65 rfl) rfl rfl rfl (Nat.le_of_ble_eq_true rfl) (cell1_all rfl) rfl) ?_
   refine D_done (by kernel_rfl) ?_
   refine T_seq ?_
   refine T_keep (kc 0 rfl <| kc 6 rfl <| kc 7 rfl <| kn) rfl ?_
   refine T_seq (T_draw (cw := md0) (by kernel_rfl) ?_)
   refine D_q0 0 _ rfl (by kernel_rfl) rfl rfl (v_move (ov rfl)) ?_
   refine D_q0 1 _ rfl (by kernel_rfl) rfl rfl (v_nilCheckP (ov rfl) rfl rfl) ?_
   refine D_q0 2 _ rfl (by kernel_rfl) rfl rfl (v_fieldP (ov rfl) rfl rfl tF114_3) ?_
   refine D_q0 3 _ rfl (by kernel_rfl) rfl rfl (v_fieldP (ov rfl) rfl rfl tF65_0) ?_
   refine D_q0 4 _ rfl (by kernel_rfl) rfl rfl (v_loadS (ov rfl) rfl rfl rfl tS3 rfl) ?_
   refine D_q0 5 _ rfl (by kernel_rfl) rfl rfl (v_move (ov rfl)) ?_
   refine D_q0 6 _ rfl (by kernel_rfl) rfl rfl (v_nilCheckP (ov rfl) rfl rfl) ?_
   refine D_q0 7 _ rfl (by kernel_rfl) rfl rfl (v_fieldP (ov rfl) rfl rfl tF114_2) ?_
   refine D_q0 8 _ rfl (by kernel_rfl) rfl rfl (v_loadS (ov rfl) rfl rfl rfl tS3 rfl) ?_
   obtain ⟨q, h_q, h⟩ := bnd h
   refine D_q0 9 _ rfl (by kernel_rfl) rfl rfl (v_remG (ov rfl) (ov rfl) h_q) ?_
   refine D_q0 10 _ rfl (by kernel_rfl) rfl rfl (v_move (ov rfl)) ?_
   refine D_q0 11 _ rfl (by kernel_rfl) rfl rfl (v_nilCheckP (ov rfl) rfl rfl) ?_
   refine D_q0 12 _ rfl (by kernel_rfl) rfl rfl (v_fieldP (ov rfl) rfl rfl tF114_2) ?_
   refine D_q0 13 _ rfl (by kernel_rfl) rfl rfl (v_loadS (ov rfl) rfl rfl rfl tS3 rfl) ?_
   refine D_q0 14 _ rfl (by kernel_rfl) rfl rfl (v_sub (ov rfl) (ov rfl) rfl) ?_
   refine D_q0 15 _ rfl (by kernel_rfl) rfl rfl (v_neq (ov rfl) (ov rfl)) ?_
   refine D_done (by kernel_rfl) ?_
   refine T_keep (kc 0 rfl <| kc 6 rfl <| kc 7 rfl <| kc 40 rfl <| kn) rfl ?_
   refine T_if h rfl (fun b40 h => ?_) (fun b40 h => ?_)
   ·
    refine T_exit ?_
    exact ⟨(y.Frame, y.Memos, kept), h, Ent.sel [some 0, some 1, some 2, some 3, some 4] (sr 0 rfl (.ptr _ _ _ rfl) <| sd 6 rfl rfl <| sd 7 rfl rfl <| sn) (.cons rfl (ro1 (by exact tZ_114.symm) (rlc (.dat rfl) <| rlc (.dat rfl) <| rlc (.dat rfl) <| rlc (.dat rfl) <| rlc (frzM rfl rfl rfl D129) <| rlc (.own _ rfl) <| rlc (.own _ rfl) <| rln)) <| .dead <| .dead <| .cons rfl (roM D65) <| .cons rfl (roM D137) <| .nil) rfl rfl⟩
   ·
    refine T_skip ?_
    refine T_keep (kc 0 rfl <| kc 6 rfl <| kc 7 rfl <| kn) rfl ?_
    refine T_seq (T_reg ?_)
    refine R_q _ rfl (v_move (ov rfl)) ?_
    refine R_q _ rfl (v_move (ov rfl)) ?_
    refine R_q _ rfl (v_nilCheckP (ov rfl) rfl rfl) ?_
    refine R_q _ rfl (v_fieldP (ov rfl) rfl rfl tF114_3) ?_
    refine R_q _ rfl (v_fieldP (ov rfl) rfl rfl tF65_0) ?_
    refine R_q _ rfl (v_loadS (ov rfl) rfl rfl rfl tS3 rfl) ?_
    obtain ⟨y2, h_y2, h⟩ := bnd h
    refine R_w _ _ rfl (w_callG [0, 5, 3, 4] (ok_panel_Replay_keptAt_wddooo h_y2) (.cons (ov rfl) (.ptr _ _ _ rfl) <| .cons (ov rfl) (.dat rfl) <| .nil) (.cons rfl (ro1 (by exact tZ_114.symm) (rlc (.dat rfl) <| rlc (.dat rfl) <| rlc (.dat rfl) <| rlc (.dat rfl) <| rlc (.own _ rfl) <| rlc (.own _ rfl) <| rlc (.own _ rfl) <| rln)) <| .cons rfl (roM D129) <| .cons rfl (roM D65) <| .cons rfl (roM D137) <| .nil) rfl (.lent 0 (.inl rfl) rfl (ro1 (by exact tZ_114.symm) (rlc (.dat rfl) <| rlc (.dat rfl) <| rlc (.dat rfl) <| rlc (.dat rfl) <| rlc (.own _ (.inr ⟨Nat.le_of_ble_eq_true rfl, rfl⟩)) <| rlc (.own _ (.inr ⟨Nat.le_of_ble_eq_true rfl, rfl⟩)) <| rlc (.own _ (.inr ⟨Nat.le_of_ble_eq_true rfl, rfl⟩)) <| rln)) <| .none <| .none <| .none <| .none <| .none <| .lent 4 (.inr ⟨Nat.le_of_ble_eq_true rfl, rfl⟩) rfl (roM D129) <| .lent 5 (.inr ⟨Nat.le_of_ble_eq_true rfl, rfl⟩) rfl (roM D65) <| .lent 6 (.inr ⟨Nat.le_of_ble_eq_true rfl, rfl⟩) rfl (roM D137) <| .nil) rfl rfl (rTup (rld rfl))) ?_
    refine R_q _ rfl (v_move (ov rfl)) ?_
    refine R_q _ rfl (v_extract (ov rfl) rfl) ?_
    refine R_q _ rfl (v_extract (ov rfl) rfl) ?_
    refine R_q _ rfl (v_assign (ov rfl)) ?_
    refine R_q _ rfl (v_assign (ov rfl)) ?_
    refine R_nil ?_
    refine T_keep (kc 0 rfl <| kc 4 rfl <| kc 5 rfl <| kc 6 rfl <| kc 7 rfl <| kn) rfl ?_
    refine T_seq (T_reg ?_)
    refine R_q _ rfl (v_move (ov rfl)) ?_
    refine R_q _ rfl (v_not (ov rfl)) ?_
    refine R_nil ?_
    refine T_keep (kc 0 rfl <| kc 4 rfl <| kc 6 rfl <| kc 7 rfl <| kc 52 rfl <| kn) rfl ?_
    refine T_if h rfl (fun b52 h => ?_) (fun b52 h => ?_)
    ·
     refine T_keep (kc 0 rfl <| kc 4 rfl <| kc 6 rfl <| kc 7 rfl <| kn) rfl ?_
     refine T_ent (Ent.sel [some 0, some 1, some 2, some 3, some 4, some 5, none, some 7, some 8] (sr 0 rfl (.ptr (r' := 0) _ _ _ rfl) <| sd 4 rfl rfl <| sd 6 rfl rfl <| sd 7 rfl rfl <| sn) (.cons rfl (ro1 (by exact tZ_114.symm) (rlc (.dat rfl) <| rlc (.dat rfl) <| rlc (.dat rfl) <| rlc (.dat rfl) <| rlc (frzM rfl rfl rfl D129) <| rlc (.own (r' := 7) _ rfl) <| rlc (.own (r' := 8) _ rfl) <| rln)) <| .dead <| .dead <| .dead <| .dead <| .dead <| .row 129 <| .cons rfl (roM D65) <| .cons rfl (roM D137) <| .nil) rfl rfl) ?_
     refine T_draw (cw := ⟨true, false, [], [], []⟩) (by kernel_rfl) ?_
     refine D_q0 6 _ rfl (by kernel_rfl) rfl rfl (v_move (ov rfl)) ?_
     refine D_q0 7 _ rfl (by kernel_rfl) rfl rfl (v_nilCheckP (ov rfl) rfl rfl) ?_
     refine D_q0 8 _ rfl (by kernel_rfl) rfl rfl (v_fieldP (ov rfl) rfl rfl tF114_3) ?_
     refine D_q0 9 _ rfl (by kernel_rfl) rfl rfl (v_loadA (ov rfl) rfl rfl rfl tA65 rfl rfl) ?_
     refine D_free 0 _ rfl (by kernel_rfl) rfl rfl (fun hp' => v_move (ov rfl)) ?_
     refine D_free 1 _ rfl (by kernel_rfl) rfl rfl (fun hp' => v_move (ov rfl)) ?_
     refine D_free 5 _ rfl (by kernel_rfl) rfl rfl (fun hp' => v_move (ov rfl)) ?_
     obtain ⟨y3, h_y3, h⟩ := bnd h
     refine D_twoQ 2 10 rfl rfl (by kernel_rfl) rfl rfl rfl rfl (fun h => by cases h) (fun h => by cases h) (v_nilCheckP (ov rfl) rfl rfl) (w_of_q (v_call (ok_panel_copyState h_y3) (.cons (ov rfl) (.aggB rfl) <| .nil))) ?_ ?_
     ·
      refine D_twoQ 3 10 rfl rfl (by kernel_rfl) rfl rfl rfl rfl (fun h => by cases h) (fun h => by cases h) (v_fieldP (ov rfl) rfl rfl tF114_4) (w_of_q (v_call (ok_panel_copyState h_y3) (.cons (ov rfl) (.aggB rfl) <| .nil))) ?_ ?_
      ·
       refine D_twoQ 4 10 rfl rfl (by kernel_rfl) rfl rfl rfl rfl (fun h => by cases h) (fun h => by cases h) (v_loadS (ov rfl) rfl rfl rfl tS111 rfl) (w_of_q (v_call (ok_panel_copyState h_y3) (.cons (ov rfl) (.aggB rfl) <| .nil))) ?_ ?_
       ·
        refine D_one 10 _ _ rfl (by kernel_rfl) rfl rfl (fun h => by cases h) (fun h => by cases h) (w_of_q (v_call (ok_panel_copyState h_y3) (.cons (ov rfl) (.aggB rfl) <| .nil))) ?_
        refine D_q0 11 (.sl 65 (List.map R65 ([y3] : List api_PanelState))) rfl (by kernel_rfl) rfl rfl (v_lit tL111 (.cons (cva (ov rfl)) rfl (pwD rfl) <| .nil) rfl rfl) ?_
        obtain ⟨y4, h_y4, h⟩ := bnd h
        refine D_one 12 _ _ rfl (by kernel_rfl) rfl rfl (fun h => by cases h) (fun h => by cases h) (w_callG [7] (ok_slices_Insert_api_PanelState_api_PanelState_o h_y4) (.cons (ov rfl) (.own _ rfl) <| .cons (ov rfl) (.dat rfl) <| .cons (ov rfl) (.dat rfl) <| .nil) (.cons rfl (roM D65) <| .nil) rfl (.keep rfl rfl <| .none <| .none <| .none <| .none <| .none <| .keep rfl rfl <| .lent 0 (.inl rfl) rfl (roM D65) <| .keep rfl rfl <| .nil) rfl rfl (.own _ (.inl rfl))) ?_
        refine D_q0 13 _ rfl (by kernel_rfl) rfl rfl (v_nilCheckP (ov rfl) rfl rfl) ?_
        refine D_q0 14 _ rfl (by kernel_rfl) rfl rfl (v_fieldP (ov rfl) rfl rfl tF114_4) ?_
        refine D_one 15 _ _ rfl (by kernel_rfl) rfl rfl (fun h => by cases h) (fun h => by cases h) (w_store (ov rfl) (ov rfl) (cells_scal tS111) rfl rfl rfl (Nat.le_of_ble_eq_true rfl) (cell1_all rfl) rfl) ?_
        refine D_done (by kernel_rfl) ?_
        exact ⟨(y.Frame, y.Memos, y4), h, Ent.sel [some 0, some 1, some 2, some 7, some 8] (sr 0 rfl (.ptr _ _ _ rfl) <| sd 6 rfl rfl <| sd 7 rfl rfl <| sn) (.cons rfl (ro1 (by exact tZ_114.symm) (rlc (.dat rfl) <| rlc (.dat rfl) <| rlc (.dat rfl) <| rlc (.dat rfl) <| rlc (.dat rfl) <| rlc (.own _ rfl) <| rlc (.own _ rfl) <| rln)) <| .dead <| .dead <| .cons rfl (roM D65) <| .cons rfl (roM D137) <| .nil) rfl rfl⟩
       ·
        refine D_q0 4 _ rfl (by kernel_rfl) rfl rfl (v_loadS (ov rfl) rfl rfl rfl tS111 rfl) ?_
        refine D_q0 11 (.sl 65 (List.map R65 ([y3] : List api_PanelState))) rfl (by kernel_rfl) rfl rfl (v_lit tL111 (.cons (cva (ov rfl)) rfl (pwD rfl) <| .nil) rfl rfl) ?_
        obtain ⟨y4, h_y4, h⟩ := bnd h
        refine D_one 12 _ _ rfl (by kernel_rfl) rfl rfl (fun h => by cases h) (fun h => by cases h) (w_callG [7] (ok_slices_Insert_api_PanelState_api_PanelState_o h_y4) (.cons (ov rfl) (.own _ rfl) <| .cons (ov rfl) (.dat rfl) <| .cons (ov rfl) (.dat rfl) <| .nil) (.cons rfl (roM D65) <| .nil) rfl (.keep rfl rfl <| .none <| .none <| .none <| .none <| .none <| .keep rfl rfl <| .lent 0 (.inl rfl) rfl (roM D65) <| .keep rfl rfl <| .nil) rfl rfl (.own _ (.inl rfl))) ?_
        refine D_q0 13 _ rfl (by kernel_rfl) rfl rfl (v_nilCheckP (ov rfl) rfl rfl) ?_
        refine D_q0 14 _ rfl (by kernel_rfl) rfl rfl (v_fieldP (ov rfl) rfl rfl tF114_4) ?_
        refine D_one 15 _ _ rfl (by kernel_rfl) rfl rfl (fun h => by cases h) (fun h => by cases h) (w_store (ov rfl) (ov rfl) (cells_scal tS111) rfl rfl rfl (Nat.le_of_ble_eq_true rfl) (cell1_all rfl) rfl) ?_
        refine D_done (by kernel_rfl) ?_
        exact ⟨(y.Frame, y.Memos, y4), h, Ent.sel [some 0, some 1, some 2, some 7, some 8] (sr 0 rfl (.ptr _ _ _ rfl) <| sd 6 rfl rfl <| sd 7 rfl rfl <| sn) (.cons rfl (ro1 (by exact tZ_114.symm) (rlc (.dat rfl) <| rlc (.dat rfl) <| rlc (.dat rfl) <| rlc (.dat rfl) <| rlc (.dat rfl) <| rlc (.own _ rfl) <| rlc (.own _ rfl) <| rln)) <| .dead <| .dead <| .cons rfl (roM D65) <| .cons rfl (roM D137) <| .nil) rfl rfl⟩
      ·
       refine D_q0 3 _ rfl (by kernel_rfl) rfl rfl (v_fieldP (ov rfl) rfl rfl tF114_4) ?_
       refine D_q0 4 _ rfl (by kernel_rfl) rfl rfl (v_loadS (ov rfl) rfl rfl rfl tS111 rfl) ?_
       refine D_q0 11 (.sl 65 (List.map R65 ([y3] : List api_PanelState))) rfl (by kernel_rfl) rfl rfl (v_lit tL111 (.cons (cva (ov rfl)) rfl (pwD rfl) <| .nil) rfl rfl) ?_
       obtain ⟨y4, h_y4, h⟩ := bnd h
       refine D_one 12 _ _ rfl (by kernel_rfl) rfl rfl (fun h => by cases h) (fun h => by cases h) (w_callG [7] (ok_slices_Insert_api_PanelState_api_PanelState_o h_y4) (.cons (ov rfl) (.own _ rfl) <| .cons (ov rfl) (.dat rfl) <| .cons (ov rfl) (.dat rfl) <| .nil) (.cons rfl (roM D65) <| .nil) rfl (.keep rfl rfl <| .none <| .none <| .none <| .none <| .none <| .keep rfl rfl <| .lent 0 (.inl rfl) rfl (roM D65) <| .keep rfl rfl <| .nil) rfl rfl (.own _ (.inl rfl))) ?_
       refine D_q0 13 _ rfl (by kernel_rfl) rfl rfl (v_nilCheckP (ov rfl) rfl rfl) ?_
       refine D_q0 14 _ rfl (by kernel_rfl) rfl rfl (v_fieldP (ov rfl) rfl rfl tF114_4) ?_
       refine D_one 15 _ _ rfl (by kernel_rfl) rfl rfl (fun h => by cases h) (fun h => by cases h) (w_store (ov rfl) (ov rfl) (cells_scal tS111) rfl rfl rfl (Nat.le_of_ble_eq_true rfl) (cell1_all rfl) rfl) ?_
       refine D_done (by kernel_rfl) ?_
       exact ⟨(y.Frame, y.Memos, y4), h, Ent.sel [some 0, some 1, some 2, some 7, some 8] (sr 0 rfl (.ptr _ _ _ rfl) <| sd 6 rfl rfl <| sd 7 rfl rfl <| sn) (.cons rfl (ro1 (by exact tZ_114.symm) (rlc (.dat rfl) <| rlc (.dat rfl) <| rlc (.dat rfl) <| rlc (.dat rfl) <| rlc (.dat rfl) <| rlc (.own _ rfl) <| rlc (.own _ rfl) <| rln)) <| .dead <| .dead <| .cons rfl (roM D65) <| .cons rfl (roM D137) <| .nil) rfl rfl⟩
     ·
      refine D_q0 2 _ rfl (by kernel_rfl) rfl rfl (v_nilCheckP (ov rfl) rfl rfl) ?_
      refine D_q0 3 _ rfl (by kernel_rfl) rfl rfl (v_fieldP (ov rfl) rfl rfl tF114_4) ?_
      refine D_q0 4 _ rfl (by kernel_rfl) rfl rfl (v_loadS (ov rfl) rfl rfl rfl tS111 rfl) ?_
      refine D_q0 11 (.sl 65 (List.map R65 ([y3] : List api_PanelState))) rfl (by kernel_rfl) rfl rfl (v_lit tL111 (.cons (cva (ov rfl)) rfl (pwD rfl) <| .nil) rfl rfl) ?_
      obtain ⟨y4, h_y4, h⟩ := bnd h
      refine D_one 12 _ _ rfl (by kernel_rfl) rfl rfl (fun h => by cases h) (fun h => by cases h) (w_callG [7] (ok_slices_Insert_api_PanelState_api_PanelState_o h_y4) (.cons (ov rfl) (.own _ rfl) <| .cons (ov rfl) (.dat rfl) <| .cons (ov rfl) (.dat rfl) <| .nil) (.cons rfl (roM D65) <| .nil) rfl (.keep rfl rfl <| .none <| .none <| .none <| .none <| .none <| .keep rfl rfl <| .lent 0 (.inl rfl) rfl (roM D65) <| .keep rfl rfl <| .nil) rfl rfl (.own _ (.inl rfl))) ?_
      refine D_q0 13 _ rfl (by kernel_rfl) rfl rfl (v_nilCheckP (ov rfl) rfl rfl) ?_
      refine D_q0 14 _ rfl (by kernel_rfl) rfl rfl (v_fieldP (ov rfl) rfl rfl tF114_4) ?_
      refine D_one 15 _ _ rfl (by kernel_rfl) rfl rfl (fun h => by cases h) (fun h => by cases h) (w_store (ov rfl) (ov rfl) (cells_scal tS111) rfl rfl rfl (Nat.le_of_ble_eq_true rfl) (cell1_all rfl) rfl) ?_
      refine D_done (by kernel_rfl) ?_
      exact ⟨(y.Frame, y.Memos, y4), h, Ent.sel [some 0, some 1, some 2, some 7, some 8] (sr 0 rfl (.ptr _ _ _ rfl) <| sd 6 rfl rfl <| sd 7 rfl rfl <| sn) (.cons rfl (ro1 (by exact tZ_114.symm) (rlc (.dat rfl) <| rlc (.dat rfl) <| rlc (.dat rfl) <| rlc (.dat rfl) <| rlc (.dat rfl) <| rlc (.own _ rfl) <| rlc (.own _ rfl) <| rln)) <| .dead <| .dead <| .cons rfl (roM D65) <| .cons rfl (roM D137) <| .nil) rfl rfl⟩
    ·
     refine T_skip ?_
     exact ⟨(y.Frame, y.Memos, kept), h, Ent.sel [some 0, some 1, some 2, some 7, some 8] (sr 0 rfl (.ptr _ _ _ rfl) <| sd 6 rfl rfl <| sd 7 rfl rfl <| sn) (.cons rfl (ro1 (by exact tZ_114.symm) (rlc (.dat rfl) <| rlc (.dat rfl) <| rlc (.dat rfl) <| rlc (.dat rfl) <| rlc (frzM rfl rfl rfl D129) <| rlc (.own _ rfl) <| rlc (.own _ rfl) <| rln)) <| .dead <| .dead <| .cons rfl (roM D65) <| .cons rfl (roM D137) <| .nil) rfl rfl⟩
  ·
   obtain ⟨Frame, Memos, kept2⟩ := j
   replace h := t3i h
   refine t3T ?_
   refine T_reg ?_
   refine R_q _ rfl (v_add (ov rfl) (ov rfl) rfl) ?_
   refine R_q _ rfl (v_move (ov rfl)) ?_
   refine R_nil ?_
   exact ⟨((api_PanelState.mk Frame Memos), kept2, (i64 (i + 1))), h, Ent.sel [some 0, some 1, some 2, some 3, some 4] (sr 0 rfl (.ptr _ _ _ rfl) <| sd 6 rfl rfl <| sd 7 rfl rfl <| sn) (.cons rfl (ro1 (by exact tZ_114.symm) (rlc (.dat rfl) <| rlc (.dat rfl) <| rlc (.dat rfl) <| rlc (.dat rfl) <| rlc (.dat rfl) <| rlc (.own _ rfl) <| rlc (.own _ rfl) <| rln)) <| .dead <| .dead <| .cons rfl (roM D65) <| .cons rfl (roM D137) <| .nil) rfl rfl⟩
 ·
  refine T_exit ?_
  rw [lx h] at ho1
  replace h := ho1
  obtain rfl := rt (v := (panel_Replay.mk r_.p r_.l r_.keep state kept r_.marks)) h
  exact retgn [some 0, some 1, some 2, some 3, some 4] rfl (.nil) (.cons rfl (ro1 (by exact tZ_114.symm) (rlc (.dat rfl) <| rlc (.dat rfl) <| rlc (.dat rfl) <| rlc (.dat rfl) <| rlc (.dat rfl) <| rlc (.own _ rfl) <| rlc (.own _ rfl) <| rln)) <| .dead <| .dead <| .cons rfl (roM D65) <| .cons rfl (roM D137) <| .nil) rfl rfl (rTup (rln))

theorem ok_panel_Replay_Step_v1_wdddoo {r_ : panel_Replay} {n : Int} {r : Int × panel_Replay} (h : panel_Replay_Step_v1 r_ n = some r) :
  GSpec Tryz.prog gl0 43 [.ptr 0 1 0 0, .int .i64 n] [some ⟨114, [[.sl 55 (List.map R55 r_.p.Instruments), .sl 26 (List.map R26 r_.l), .int .i64 r_.keep, .int .i64 r_.state.Frame, .sl 129 (List.map R129 r_.state.Memos), .own 1 r_.kept.length, .own 2 r_.marks.length]]⟩, some ⟨65, List.map R65 r_.kept⟩, some ⟨137, List.map R137 r_.marks⟩] (.int .i64 r.1) [some ⟨114, [[.sl 55 (List.map R55 r.2.p.Instruments), .sl 26 (List.map R26 r.2.l), .int .i64 r.2.keep, .int .i64 r.2.state.Frame, .sl 129 (List.map R129 r.2.state.Memos), .own 3 r.2.kept.length, .own 4 r.2.marks.length]]⟩, none, none, some ⟨65, List.map R65 r.2.kept⟩, some ⟨137, List.map R137 r.2.marks⟩] := by
 unfold panel_Replay_Step_v1 at h
 replace h := bnd0 h
 refine gspec_of (by kernel_rfl) Tryz.func43 rfl rfl ?_
 intro w0 A W φ0
 refine T_ent (Ent.sel [some 0, some 1, some 2, some 1, some 2] (sr 0 rfl (.ptr (r' := 0) _ _ _ rfl) <| sd 1 rfl rfl <| sn) (.cons rfl (ro1 (by exact tZ_114.symm) (rlc (.dat rfl) <| rlc (.dat rfl) <| rlc (.dat rfl) <| rlc (.dat rfl) <| rlc (.dat rfl) <| rlc (.own (r' := 3) _ rfl) <| rlc (.own (r' := 4) _ rfl) <| rln)) <| .dead <| .dead <| .cons rfl (roM D65) <| .cons rfl (roM D137) <| .nil) rfl rfl) ?_
 refine T_seq (T_reg ?_)
 refine R_q _ rfl (v_assign (ov rfl)) ?_
 refine R_nil ?_
 refine T_seq ?_
 refine T_keep (kc 0 rfl <| kc 1 rfl <| kn) rfl ?_
 refine T_seq (T_reg ?_)
 refine R_q _ rfl (v_move (ov rfl)) ?_
 refine R_q _ rfl (v_lss (ov rfl) (ov rfl)) ?_
 refine R_q _ rfl (v_move (ov rfl)) ?_
 refine R_q _ rfl (.guarded ((decide (n < 0)) == false) rfl rfl rfl rfl fun h => v_move (ov rfl)) ?_
 refine R_q _ rfl (.guarded ((decide (n < 0)) == false) rfl rfl rfl rfl fun h => v_move (ov rfl)) ?_
 refine R_q _ rfl (.guarded ((decide (n < 0)) == false) rfl rfl rfl rfl fun h => v_nilCheckP (ow rfl h) rfl rfl) ?_
 refine R_q _ rfl (.guarded ((decide (n < 0)) == false) rfl rfl rfl rfl fun h => v_fieldP (ow rfl h) rfl rfl tF114_3) ?_
 refine R_q _ rfl (.guarded ((decide (n < 0)) == false) rfl rfl rfl rfl fun h => v_fieldP (ow rfl h) rfl rfl tF65_0) ?_
 refine R_q _ rfl (.guarded ((decide (n < 0)) == false) rfl rfl rfl rfl fun h => v_loadS (ow rfl h) rfl rfl rfl tS3 rfl) ?_
 refine R_q _ rfl (.guarded ((decide (n < 0)) == false) rfl rfl rfl rfl fun h => v_sub (ov rfl) (ow rfl h) rfl) ?_
 refine R_q _ rfl (.guarded ((decide (n < 0)) == false) rfl rfl rfl rfl fun h => v_gtr (ow rfl h) (ow rfl h)) ?_
 refine R_q _ rfl (v_or (ov rfl) (fun hp => ow rfl (gF hp))) ?_
 refine R_nil ?_
 refine T_keep (kc 0 rfl <| kc 1 rfl <| kc 16 rfl <| kn) rfl ?_
 refine T_if h rfl (fun b16 h => ?_) (fun b16 h => ?_)
 ·
  refine T_keep (kn) rfl ?_
  refine T_seq (T_reg ?_)
  refine R_q _ rfl (v_assign (ov rfl)) ?_
  refine R_nil ?_
  obtain rfl := rt (v := (9, r_)) h
  refine T_ret ?_
  exact retg [some 0, some 1, some 2, some 3, some 4] rfl (.cons (.tmp rfl) <| .nil) (.cons rfl (ro1 (by exact tZ_114.symm) (rlc (.dat rfl) <| rlc (.dat rfl) <| rlc (.dat rfl) <| rlc (.dat rfl) <| rlc (.dat rfl) <| rlc (.own _ rfl) <| rlc (.own _ rfl) <| rln)) <| .dead <| .dead <| .cons rfl (roM D65) <| .cons rfl (roM D137) <| .nil) rfl rfl (.dat rfl)
 ·
  refine T_skip ?_
  refine T_keep (kc 0 rfl <| kc 1 rfl <| kn) rfl ?_
  refine T_seq (T_reg ?_)
  refine R_q _ rfl (v_move (ov rfl)) ?_
  refine R_q _ rfl (v_move (ov rfl)) ?_
  obtain ⟨y, h_y, h⟩ := bnd h
  refine R_w _ _ rfl (w_callG [0, 3, 4] (ok_panel_Replay_advance_v1_wdddoo h_y) (.cons (ov rfl) (.ptr _ _ _ rfl) <| .cons (ov rfl) (.dat rfl) <| .nil) (.cons rfl (ro1 (by exact tZ_114.symm) (rlc (.dat rfl) <| rlc (.dat rfl) <| rlc (.dat rfl) <| rlc (.dat rfl) <| rlc (.dat rfl) <| rlc (.own _ rfl) <| rlc (.own _ rfl) <| rln)) <| .cons rfl (roM D65) <| .cons rfl (roM D137) <| .nil) rfl (.lent 0 (.inl rfl) rfl (ro1 (by exact tZ_114.symm) (rlc (.dat rfl) <| rlc (.dat rfl) <| rlc (.dat rfl) <| rlc (.dat rfl) <| rlc (.dat rfl) <| rlc (.own _ (.inr ⟨Nat.le_of_ble_eq_true rfl, rfl⟩)) <| rlc (.own _ (.inr ⟨Nat.le_of_ble_eq_true rfl, rfl⟩)) <| rln)) <| .none <| .none <| .none <| .none <| .lent 3 (.inr ⟨Nat.le_of_ble_eq_true rfl, rfl⟩) rfl (roM D65) <| .lent 4 (.inr ⟨Nat.le_of_ble_eq_true rfl, rfl⟩) rfl (roM D137) <| .nil) rfl rfl (rTup (rld rfl))) ?_
  refine R_nil ?_
  refine T_keep (kn) rfl ?_
  refine T_seq (T_reg ?_)
  refine R_q _ rfl (v_assign (ov rfl)) ?_
  refine R_nil ?_
  obtain rfl := rt (v := (0, y)) h
  refine T_ret ?_
  exact retg [some 0, some 1, some 2, some 5, some 6] rfl (.cons (.tmp rfl) <| .nil) (.cons rfl (ro1 (by exact tZ_114.symm) (rlc (.dat rfl) <| rlc (.dat rfl) <| rlc (.dat rfl) <| rlc (.dat rfl) <| rlc (.dat rfl) <| rlc (.own _ rfl) <| rlc (.own _ rfl) <| rln)) <| .dead <| .dead <| .cons rfl (roM D65) <| .cons rfl (roM D137) <| .nil) rfl rfl (.dat rfl)

theorem ok_panel_Replay_Faces_wdddoo {r_ : panel_Replay} {r : (List api_Face)} (h : panel_Replay_Faces r_ = some r) :
  GSpec Tryz.prog gl0 24 [.ptr 0 1 0 0] [some ⟨114, [[.sl 55 (List.map R55 r_.p.Instruments), .sl 26 (List.map R26 r_.l), .int .i64 r_.keep, .int .i64 r_.state.Frame, .sl 129 (List.map R129 r_.state.Memos), .own 1 r_.kept.length, .own 2 r_.marks.length]]⟩, some ⟨65, List.map R65 r_.kept⟩, some ⟨137, List.map R137 r_.marks⟩] (.sl 57 (List.map R57 r)) [some ⟨114, [[.sl 55 (List.map R55 r_.p.Instruments), .sl 26 (List.map R26 r_.l), .int .i64 r_.keep, .int .i64 r_.state.Frame, .sl 129 (List.map R129 r_.state.Memos), .own 3 r_.kept.length, .own 4 r_.marks.length]]⟩, none, none, some ⟨65, List.map R65 r_.kept⟩, some ⟨137, List.map R137 r_.marks⟩] := by
 unfold panel_Replay_Faces at h
 replace h := bnd0 h
 refine gspec_of (by kernel_rfl) Tryz.func24 rfl rfl ?_
 intro w0 A W φ0
 refine T_ent (Ent.sel [some 0, some 1, some 2, some 1, some 2] (sr 0 rfl (.ptr (r' := 0) _ _ _ rfl) <| sn) (.cons rfl (ro1 (by exact tZ_114.symm) (rlc (.dat rfl) <| rlc (.dat rfl) <| rlc (.dat rfl) <| rlc (.dat rfl) <| rlc (.dat rfl) <| rlc (.own (r' := 3) _ rfl) <| rlc (.own (r' := 4) _ rfl) <| rln)) <| .dead <| .dead <| .cons rfl (roM D65) <| .cons rfl (roM D137) <| .nil) rfl rfl) ?_
 refine T_seq (T_reg ?_)
 refine R_q _ rfl (v_assign (ov rfl)) ?_
 refine R_nil ?_
 refine T_seq (T_draw (cw := md0) (by kernel_rfl) ?_)
 refine D_q0 0 _ rfl (by kernel_rfl) rfl rfl (v_move (ov rfl)) ?_
 refine D_q0 1 _ rfl (by kernel_rfl) rfl rfl (v_nilCheckP (ov rfl) rfl rfl) ?_
 refine D_q0 2 _ rfl (by kernel_rfl) rfl rfl (v_fieldP (ov rfl) rfl rfl tF114_0) ?_
 refine D_q0 3 _ rfl (by kernel_rfl) rfl rfl (v_loadA (ov rfl) rfl rfl rfl tA41 rfl rfl) ?_
 refine D_q0 4 _ rfl (by kernel_rfl) rfl rfl (v_move (ov rfl)) ?_
 refine D_q0 5 _ rfl (by kernel_rfl) rfl rfl (v_nilCheckP (ov rfl) rfl rfl) ?_
 refine D_q0 6 _ rfl (by kernel_rfl) rfl rfl (v_fieldP (ov rfl) rfl rfl tF114_1) ?_
 refine D_q0 7 _ rfl (by kernel_rfl) rfl rfl (v_loadS (ov rfl) rfl rfl rfl tS42 rfl) ?_
 refine D_q0 8 _ rfl (by kernel_rfl) rfl rfl (v_move (ov rfl)) ?_
 refine D_q0 9 _ rfl (by kernel_rfl) rfl rfl (v_nilCheckP (ov rfl) rfl rfl) ?_
 refine D_q0 10 _ rfl (by kernel_rfl) rfl rfl (v_fieldP (ov rfl) rfl rfl tF114_3) ?_
 refine D_q0 11 _ rfl (by kernel_rfl) rfl rfl (v_loadA (ov rfl) rfl rfl rfl tA65 rfl rfl) ?_
 obtain ⟨y, h_y, h⟩ := bnd h
 refine D_q0 12 _ rfl (by kernel_rfl) rfl rfl (v_call (ok_panel_faces h_y) (.cons (ov rfl) (.aggB rfl) <| .cons (ov rfl) (.b rfl) <| .cons (ov rfl) (.aggB rfl) <| .nil)) ?_
 refine D_q0 13 _ rfl (by kernel_rfl) rfl rfl (v_assign (ov rfl)) ?_
 refine D_done (by kernel_rfl) ?_
 obtain rfl := rt (v := y) h
 refine T_ret ?_
 exact retg [some 0, some 1, some 2, some 3, some 4] rfl (.cons (.tmp rfl) <| .nil) (.cons rfl (ro1 (by exact tZ_114.symm) (rlc (.dat rfl) <| rlc (.dat rfl) <| rlc (.dat rfl) <| rlc (.dat rfl) <| rlc (.dat rfl) <| rlc (.own _ rfl) <| rlc (.own _ rfl) <| rln)) <| .dead <| .dead <| .cons rfl (roM D65) <| .cons rfl (roM D137) <| .nil) rfl rfl (.dat rfl)

theorem ok_law8_shown  {r : Bool} (h : law8_shown  = some r) :
  CSpec Tryz.prog gl0 15 [] (.bool r) := by
 unfold law8_shown at h
 replace h := bnd0 h
 refine spec_of (by kernel_rfl) Tryz.func15 rfl rfl ?_
 intro w0 A
 refine T_seq (T_reg ?_)
 refine R_q _ rfl (v_assign (ov rfl)) ?_
 refine R_nil ?_
 refine T_keep (kn) rfl ?_
 refine T_seq (T_reg ?_)
 refine R_q _ rfl (v_build (ys := [_, _, _, _, _, _, _, _, _, _, _, _]) tPL55 tHA55 tZ55 (.cons (cvs (ov rfl) (cell1_b rfl)) <| .cons (cvs (ov rfl) (cell1_b rfl)) <| .cons (cvs (ov rfl) (cell1_b rfl)) <| .cons (cvs (ov rfl) (cell1_b rfl)) <| .nil) rfl) ?_
 refine R_q (.sl 55 (List.map R55 ([(api_Instrument.mk 1 [97] [116] 1 0 0 0 [] 0 0 false 0)] : List api_Instrument))) rfl (v_lit tL39 (.cons (cva (ov rfl)) rfl (.cons (.b rfl) <| .cons (.b rfl) <| .cons (.b rfl) <| .cons (.b rfl) <| .cons (.b rfl) <| .cons (.b rfl) <| .cons (.b rfl) <| .cons (Dat.nils _) <| .cons (.b rfl) <| .cons (.b rfl) <| .cons (.b rfl) <| .cons (.b rfl) <| .nil) <| .nil) rfl rfl) ?_
 refine R_q _ rfl (v_build (ys := [_]) tPL41 tHA41 tZ41 (.cons (cvs (ov rfl) (cell1_b rfl)) <| .nil) rfl) ?_
 refine R_w _ _ rfl (w_alloc (row := [_]) 0 rfl tZ41 rfl tZ_41) ?_
 refine R_w _ _ rfl (w_store (ov rfl) (ov rfl) (cells_agg tA41 rfl) rfl rfl rfl (Nat.le_of_ble_eq_true rfl) (cell1_all rfl) rfl) ?_
 refine R_nil ?_
 refine T_keep (kc 1 rfl <| kn) rfl ?_
 refine T_seq (T_reg ?_)
 refine R_q _ rfl (v_build (ys := [_, _, _]) tPL28 tHA28 tZ28 (.cons (cvs (ov rfl) (cell1_b rfl)) <| .cons (cvs (ov rfl) (cell1_b rfl)) <| .cons (cvs (ov rfl) (cell1_b rfl)) <| .nil) rfl) ?_
 refine R_q (.sl 28 (List.map R28 ([(api_Sample.mk 70 (-3) 4)] : List api_Sample))) rfl (v_lit tL22 (.cons (cva (ov rfl)) rfl (pwD rfl) <| .nil) rfl rfl) ?_
 refine R_q _ rfl (v_build (ys := [_, _]) tPL24 tHA24 tZ24 (.cons (cvs (ov rfl) (cell1_b rfl)) <| .cons (cvs (ov rfl) (cell1_b rfl)) <| .nil) rfl) ?_
 refine R_q _ rfl (v_build (ys := [_, _, _, _]) tPL26 tHA26 tZ26 (.cons (cvs (ov rfl) (cell1_b rfl)) <| .cons (cva (ov rfl)) <| .cons (cvs (ov rfl) (cell1_b rfl)) <| .nil) rfl) ?_
 refine R_q (.sl 26 (List.map R26 ([(api_Track.mk [116] (api_Series.mk 2 ([(api_Sample.mk 70 (-3) 4)] : List api_Sample)) 100)] : List api_Track))) rfl (v_lit tL42 (.cons (cva (ov rfl)) rfl (pwD rfl) <| .nil) rfl rfl) ?_
 refine R_q _ rfl (v_assign (ov rfl)) ?_
 refine R_nil ?_
 refine T_keep (kc 1 rfl <| kc 2 rfl <| kn) rfl ?_
 refine T_seq (T_reg ?_)
 refine R_q _ rfl (v_loadA (ov rfl) rfl rfl rfl tA41 rfl rfl) ?_
 refine R_q _ rfl (v_move (ov rfl)) ?_
 obtain ⟨y, h_y, h⟩ := bnd h
 rcases y with y | y
 ·
  replace h := ell h
  refine R_w _ _ rfl (w_callG [] (ok_panel_New_o_nil h_y) (.cons (ov rfl) (rAgg (rld rfl)) <| .cons (ov rfl) (.dat rfl) <| .cons (ov rfl) (.dat rfl) <| .nil) (.nil) rfl (.keep rfl rfl <| .nil) rfl rfl (rTup (rlc (.dat rfl) <| rlc (.dat rfl) <| rln))) ?_
  refine R_q _ rfl (v_move (ov rfl)) ?_
  refine R_q _ rfl (v_extract (ov rfl) rfl) ?_
  refine R_q _ rfl (v_extract (ov rfl) rfl) ?_
  refine R_q _ rfl (v_assign (ov rfl)) ?_
  refine R_q _ rfl (v_assign (ov rfl)) ?_
  refine R_nil ?_
  refine T_seq ?_
  refine T_keep (kc 3 rfl <| kc 4 rfl <| kn) rfl ?_
  refine T_seq (T_reg ?_)
  refine R_q _ rfl (v_move (ov rfl)) ?_
  refine R_q _ rfl (v_neq (ov rfl) (ov rfl)) ?_
  refine R_q _ rfl (v_move (ov rfl)) ?_
  refine R_q _ rfl (.guarded ((!decide (y = 0)) == false) rfl rfl rfl rfl fun h => v_move (ov rfl)) ?_
  obtain ⟨u, h_u, h⟩ := bnd h
  refine R_q (.when ((!decide (y = 0)) == false) (.int .i64 0)) rfl (.guarded ((!decide (y = 0)) == false) rfl rfl rfl rfl fun h => noneE (gdT h_u h)) ?_
  refine R_q _ rfl (.guarded ((!decide (y = 0)) == false) rfl rfl rfl rfl fun h => v_neq (ow rfl h) (ov rfl)) ?_
  refine R_q _ rfl (v_or (ov rfl) (fun hp => ow rfl (gF hp))) ?_
  refine R_nil ?_
  refine T_keep (kc 3 rfl <| kc 26 rfl <| kn) rfl ?_
  refine T_if h rfl (fun b26 h => ?_) (fun b26 h => ?_)
  ·
   refine T_keep (kn) rfl ?_
   refine T_seq (T_reg ?_)
   refine R_q _ rfl (v_assign (ov rfl)) ?_
   refine R_nil ?_
   obtain rfl := rt (v := false) h
   refine T_ret (retq ?_ (.one (.tmp rfl (Dat.view (.b rfl)))))
   rfl
  ·
   refine T_skip ?_
   exact (noneB h).elim
 ·
  replace h := elr h
  refine R_w _ _ rfl (w_callG [] (ok_panel_New_o_ptr h_y) (.cons (ov rfl) (rAgg (rld rfl)) <| .cons (ov rfl) (.dat rfl) <| .cons (ov rfl) (.dat rfl) <| .nil) (.nil) rfl (.keep rfl rfl <| .lent 0 (.inr ⟨Nat.le_of_ble_eq_true rfl, rfl⟩) rfl (ro1 (by exact tZ_114.symm) (rlc (.dat rfl) <| rlc (.dat rfl) <| rlc (.dat rfl) <| rlc (.dat rfl) <| rlc (.dat rfl) <| rlc (.own _ (.inr ⟨Nat.le_of_ble_eq_true rfl, rfl⟩)) <| rlc (.own _ (.inr ⟨Nat.le_of_ble_eq_true rfl, rfl⟩)) <| rln)) <| .lent 1 (.inr ⟨Nat.le_of_ble_eq_true rfl, rfl⟩) rfl (roM D65) <| .lent 2 (.inr ⟨Nat.le_of_ble_eq_true rfl, rfl⟩) rfl (roM D137) <| .nil) rfl rfl (rTup (rlc (.ptr _ _ _ (.inr ⟨Nat.le_of_ble_eq_true rfl, rfl⟩)) <| rlc (.dat rfl) <| rln))) ?_
  refine R_q _ rfl (v_move (ov rfl)) ?_
  refine R_q _ rfl (v_extract (ov rfl) rfl) ?_
  refine R_q _ rfl (v_extract (ov rfl) rfl) ?_
  refine R_q _ rfl (v_assign (ov rfl)) ?_
  refine R_q _ rfl (v_assign (ov rfl)) ?_
  refine R_nil ?_
  refine T_joinG (fun j => (.inr j)) (t6 fun p l keep state kept marks => ⟨[(3, .ptr 0 1 0 0)], [some ⟨114, [[.sl 55 (List.map R55 p.Instruments), .sl 26 (List.map R26 l), .int .i64 keep, .int .i64 state.Frame, .sl 129 (List.map R129 state.Memos), .own 1 kept.length, .own 2 marks.length]]⟩, some ⟨65, List.map R65 kept⟩, some ⟨137, List.map R137 marks⟩]⟩) h (fun h => ?_) (fun j h => ?_)
  ·
   refine T_keep (kc 3 rfl <| kc 4 rfl <| kn) rfl ?_
   refine T_seq (T_reg ?_)
   refine R_q _ rfl (v_move (ov rfl)) ?_
   refine R_q _ rfl (v_neq (ov rfl) (ov rfl)) ?_
   refine R_q _ rfl (v_move (ov rfl)) ?_
   refine R_q _ rfl (.guarded ((!decide (y.2 = 0)) == false) rfl rfl rfl rfl fun h => v_move (ov rfl)) ?_
   rcases ifR h with ⟨hg, h⟩ | ⟨hg, h⟩
   ·
    refine R_lit (d := 22) (b' := false) rfl (beqT hg) ?_
    obtain ⟨y2, h_y2, h⟩ := bnd h
    refine R_wG _ _ rfl rfl rfl rfl (w_callG [1, 2, 3] (ok_panel_Replay_Step_v1_wdddoo h_y2) (.cons (ow rfl (by simp_all)) (.ptr _ _ _ rfl) <| .cons (ov rfl) (.dat rfl) <| .nil) (.cons rfl (ro1 (by exact tZ_114.symm) (rlc (.dat rfl) <| rlc (.dat rfl) <| rlc (.dat rfl) <| rlc (.dat rfl) <| rlc (.dat rfl) <| rlc (.own _ rfl) <| rlc (.own _ rfl) <| rln)) <| .cons rfl (roM D65) <| .cons rfl (roM D137) <| .nil) rfl (.keep rfl rfl <| .lent 0 (.inl rfl) rfl (ro1 (by exact tZ_114.symm) (rlc (.dat rfl) <| rlc (.dat rfl) <| rlc (.dat rfl) <| rlc (.dat rfl) <| rlc (.dat rfl) <| rlc (.own _ (.inr ⟨Nat.le_of_ble_eq_true rfl, rfl⟩)) <| rlc (.own _ (.inr ⟨Nat.le_of_ble_eq_true rfl, rfl⟩)) <| rln)) <| .none <| .none <| .lent 3 (.inr ⟨Nat.le_of_ble_eq_true rfl, rfl⟩) rfl (roM D65) <| .lent 4 (.inr ⟨Nat.le_of_ble_eq_true rfl, rfl⟩) rfl (roM D137) <| .nil) rfl rfl (.dat rfl)) ?_
    refine R_q _ rfl (.guarded (false == false) rfl rfl rfl rfl fun h => v_neq (ov rfl) (ov rfl)) ?_
    refine R_q _ rfl (v_or (ov rfl) (fun hp => ow rfl (gF hp))) ?_
    refine R_nil ?_
    refine T_keep (kc 3 rfl <| kc 26 rfl <| kn) rfl ?_
    refine T_if h rfl (fun b26 h => ?_) (fun b26 h => ?_)
    ·
     refine T_keep (kn) rfl ?_
     refine T_seq (T_reg ?_)
     refine R_q _ rfl (v_assign (ov rfl)) ?_
     refine R_nil ?_
     obtain rfl := rt (v := false) h
     refine T_ret (retq ?_ (.one (.tmp rfl (Dat.view (.b rfl)))))
     rfl
    ·
     refine T_skip ?_
     exact ⟨(y2.2.p, y2.2.l, y2.2.keep, y2.2.state, y2.2.kept, y2.2.marks), h, Ent.sel [some 1, some 4, some 5] (sr 3 rfl (.ptr _ _ _ rfl) <| sn) (.cons rfl (ro1 (by exact tZ_114.symm) (rlc (.dat rfl) <| rlc (.dat rfl) <| rlc (.dat rfl) <| rlc (.dat rfl) <| rlc (.dat rfl) <| rlc (.own _ rfl) <| rlc (.own _ rfl) <| rln)) <| .cons rfl (roM D65) <| .cons rfl (roM D137) <| .nil) rfl rfl⟩
   ·
    refine R_lit (d := 22) (b' := true) rfl (beqF hg) ?_
    refine R_skipG rfl rfl rfl rfl rfl ?_
    obtain ⟨u2, h_u2, h⟩ := bnd h
    refine R_q (.when (true == false) (.bool false)) rfl (.guarded (true == false) rfl rfl rfl rfl fun h => noneE (gdT h_u2 h)) ?_
    refine R_q _ rfl (v_or (ov rfl) (fun hp => ow rfl (gF hp))) ?_
    refine R_nil ?_
    refine T_keep (kc 3 rfl <| kc 26 rfl <| kn) rfl ?_
    refine T_if h rfl (fun b26 h => ?_) (fun b26 h => ?_)
    ·
     refine T_keep (kn) rfl ?_
     refine T_seq (T_reg ?_)
     refine R_q _ rfl (v_assign (ov rfl)) ?_
     refine R_nil ?_
     obtain rfl := rt (v := false) h
     refine T_ret (retq ?_ (.one (.tmp rfl (Dat.view (.b rfl)))))
     rfl
    ·
     refine T_skip ?_
     exact ⟨(y.1.p, y.1.l, y.1.keep, y.1.state, y.1.kept, y.1.marks), h, Ent.sel [some 1, some 2, some 3] (sr 3 rfl (.ptr _ _ _ rfl) <| sn) (.cons rfl (ro1 (by exact tZ_114.symm) (rlc (.dat rfl) <| rlc (.dat rfl) <| rlc (.dat rfl) <| rlc (.dat rfl) <| rlc (.dat rfl) <| rlc (.own _ rfl) <| rlc (.own _ rfl) <| rln)) <| .cons rfl (roM D65) <| .cons rfl (roM D137) <| .nil) rfl rfl⟩
  ·
   replace h := elr h
   obtain ⟨p, l, keep, state, kept, marks⟩ := j
   replace h := t6i h
   refine t6T ?_
   refine T_seq (T_reg ?_)
   refine R_q _ rfl (v_move (ov rfl)) ?_
   obtain ⟨y3, h_y3, h⟩ := bnd h
   refine R_w _ _ rfl (w_callG [0, 1, 2] (ok_panel_Replay_Faces_wdddoo h_y3) (.cons (ov rfl) (.ptr _ _ _ rfl) <| .nil) (.cons rfl (ro1 (by exact tZ_114.symm) (rlc (.dat rfl) <| rlc (.dat rfl) <| rlc (.dat rfl) <| rlc (.dat rfl) <| rlc (.dat rfl) <| rlc (.own _ rfl) <| rlc (.own _ rfl) <| rln)) <| .cons rfl (roM D65) <| .cons rfl (roM D137) <| .nil) rfl (.lent 0 (.inl rfl) rfl (ro1 (by exact tZ_114.symm) (rlc (.dat rfl) <| rlc (.dat rfl) <| rlc (.dat rfl) <| rlc (.dat rfl) <| rlc (.dat rfl) <| rlc (.own _ (.inr ⟨Nat.le_of_ble_eq_true rfl, rfl⟩)) <| rlc (.own _ (.inr ⟨Nat.le_of_ble_eq_true rfl, rfl⟩)) <| rln)) <| .none <| .none <| .lent 3 (.inr ⟨Nat.le_of_ble_eq_true rfl, rfl⟩) rfl (roM D65) <| .lent 4 (.inr ⟨Nat.le_of_ble_eq_true rfl, rfl⟩) rfl (roM D137) <| .nil) rfl rfl (.dat rfl)) ?_
   refine R_q _ rfl (v_assign (ov rfl)) ?_
   refine R_nil ?_
   refine T_keep (kc 5 rfl <| kn) rfl ?_
   refine T_seq (T_reg ?_)
   refine R_q _ rfl (v_move (ov rfl)) ?_
   refine R_q _ rfl (v_len (slv_sl (ov rfl) tZ_57) tL51 (len_map _ _)) ?_
   refine R_q _ rfl (v_eql (ov rfl) (ov rfl)) ?_
   refine R_q _ rfl (v_move (ov rfl)) ?_
   refine R_q _ rfl (.guarded ((decide ((y3.length : Int) = 1)) == true) rfl rfl rfl rfl fun h => v_move (ov rfl)) ?_
   obtain ⟨x, h_x, h⟩ := bnd h
   refine R_q _ rfl (.guarded ((decide ((y3.length : Int) = 1)) == true) rfl rfl rfl rfl fun h => v_ixSG (ow rfl h) (ov rfl) tL51 (gdT h_x h)) ?_
   refine R_q _ rfl (.guarded ((decide ((y3.length : Int) = 1)) == true) rfl rfl rfl rfl fun h => v_loadA_r (ow rfl h) tA57 rfl rfl) ?_
   refine R_q _ rfl (.guarded ((decide ((y3.length : Int) = 1)) == true) rfl rfl rfl rfl fun h => v_build (ys := [_, _, _, _]) tPL57 tHA57 tZ57 (.cons (cvs (ov rfl) (cell1_b rfl)) <| .cons (cvs (ov rfl) (cell1_b rfl)) <| .nil) rfl) ?_
   refine R_q _ rfl (.guarded ((decide ((y3.length : Int) = 1)) == true) rfl rfl rfl rfl fun h => v_eqlS tFS57 (ow rfl h) (ow rfl h) (.aggB rfl) (.aggB rfl) rfl rfl) ?_
   refine R_q _ rfl (v_and (ov rfl) (fun hp => ow rfl (gT hp))) ?_
   refine R_q _ rfl (v_assign (ov rfl)) ?_
   refine R_nil ?_
   obtain rfl := rt (v := ((decide ((y3.length : Int) = 1)) && (decide (x.Text = [45, 49, 46, 53]) && (decide (x.Needle = 0) && ((x.Lit == false) && (decide (x.Mark = 4) && true)))))) h
   refine T_ret (retq ?_ (.one (.tmp rfl (Dat.view (.b rfl)))))
   rfl

theorem ok_law8_PanelDifferMatchesSpec {p : api_Panel} {a : List api_Track} {b : List api_Track} {to : Int} {r : Bool} (h : law8_PanelDifferMatchesSpec p a b to = some r) :
  CSpec Tryz.prog gl0 5 [.agg [.sl 55 (List.map R55 p.Instruments)], .sl 26 (List.map R26 a), .sl 26 (List.map R26 b), .int .i64 to] (.bool r) := by
 unfold law8_PanelDifferMatchesSpec at h
 replace h := bnd0 h
 refine spec_of (by kernel_rfl) Tryz.func5 rfl rfl ?_
 intro w0 A
 refine T_seq (T_reg ?_)
 refine R_q _ rfl (v_boxD (cva (ov rfl)) rfl tZ_41 rfl) ?_
 refine R_q _ rfl (v_assign (ov rfl)) ?_
 refine R_nil ?_
 refine T_keep (kc 1 rfl <| kc 2 rfl <| kc 3 rfl <| kc 4 rfl <| kn) rfl ?_
 refine T_seq (T_reg ?_)
 refine R_q _ rfl (v_loadA_r (ov rfl) tA41 rfl rfl) ?_
 refine R_q _ rfl (v_move (ov rfl)) ?_
 refine R_q _ rfl (v_move (ov rfl)) ?_
 refine R_q _ rfl (v_move (ov rfl)) ?_
 obtain ⟨y, h_y, h⟩ := bnd h
 refine R_q _ rfl (v_call (ok_panel_Differ h_y) (.cons (ov rfl) (.aggB rfl) <| .cons (ov rfl) (.b rfl) <| .cons (ov rfl) (.b rfl) <| .cons (ov rfl) (.b rfl) <| .nil)) ?_
 refine R_q _ rfl (v_move (ov rfl)) ?_
 refine R_q _ rfl (v_extract (ov rfl) rfl) ?_
 refine R_q _ rfl (v_extract (ov rfl) rfl) ?_
 refine R_q _ rfl (v_extract (ov rfl) rfl) ?_
 refine R_q _ rfl (v_extract (ov rfl) rfl) ?_
 refine R_q _ rfl (v_assign (ov rfl)) ?_
 refine R_q _ rfl (v_assign (ov rfl)) ?_
 refine R_q _ rfl (v_assign (ov rfl)) ?_
 refine R_q _ rfl (v_assign (ov rfl)) ?_
 refine R_nil ?_
 refine T_keep (kc 1 rfl <| kc 2 rfl <| kc 3 rfl <| kc 4 rfl <| kc 9 rfl <| kc 10 rfl <| kc 11 rfl <| kc 12 rfl <| kn) rfl ?_
 refine T_seq (T_reg ?_)
 refine R_q _ rfl (v_loadA_r (ov rfl) tA41 rfl rfl) ?_
 refine R_q _ rfl (v_move (ov rfl)) ?_
 refine R_q _ rfl (v_move (ov rfl)) ?_
 refine R_q _ rfl (v_move (ov rfl)) ?_
 obtain ⟨y2, h_y2, h⟩ := bnd h
 refine R_q _ rfl (v_call (ok_ref8_Differ h_y2) (.cons (ov rfl) (.aggB rfl) <| .cons (ov rfl) (.b rfl) <| .cons (ov rfl) (.b rfl) <| .cons (ov rfl) (.b rfl) <| .nil)) ?_
 refine R_q _ rfl (v_move (ov rfl)) ?_
 refine R_q _ rfl (v_extract (ov rfl) rfl) ?_
 refine R_q _ rfl (v_extract (ov rfl) rfl) ?_
 refine R_q _ rfl (v_extract (ov rfl) rfl) ?_
 refine R_q _ rfl (v_extract (ov rfl) rfl) ?_
 refine R_q _ rfl (v_assign (ov rfl)) ?_
 refine R_q _ rfl (v_assign (ov rfl)) ?_
 refine R_q _ rfl (v_assign (ov rfl)) ?_
 refine R_q _ rfl (v_assign (ov rfl)) ?_
 refine R_nil ?_
 refine T_keep (kc 9 rfl <| kc 10 rfl <| kc 11 rfl <| kc 12 rfl <| kc 13 rfl <| kc 14 rfl <| kc 15 rfl <| kc 16 rfl <| kn) rfl ?_
 refine T_seq (T_reg ?_)
 refine R_q _ rfl (v_move (ov rfl)) ?_
 refine R_q _ rfl (v_move (ov rfl)) ?_
 refine R_q _ rfl (v_eql (ov rfl) (ov rfl)) ?_
 refine R_q _ rfl (v_move (ov rfl)) ?_
 refine R_q _ rfl (.guarded ((decide (y.1 = y2.1)) == true) rfl rfl rfl rfl fun h => v_move (ov rfl)) ?_
 refine R_q _ rfl (.guarded ((decide (y.1 = y2.1)) == true) rfl rfl rfl rfl fun h => v_move (ov rfl)) ?_
 refine R_q _ rfl (.guarded ((decide (y.1 = y2.1)) == true) rfl rfl rfl rfl fun h => v_eql (ow rfl h) (ow rfl h)) ?_
 refine R_q _ rfl (v_and (ov rfl) (fun hp => ow rfl (gT hp))) ?_
 refine R_q _ rfl (v_move (ov rfl)) ?_
 refine R_q _ rfl (.guarded (((decide (y.1 = y2.1)) && (decide (y.2.1 = y2.2.1))) == true) rfl rfl rfl rfl fun h => v_move (ov rfl)) ?_
 refine R_q _ rfl (.guarded (((decide (y.1 = y2.1)) && (decide (y.2.1 = y2.2.1))) == true) rfl rfl rfl rfl fun h => v_move (ov rfl)) ?_
 refine R_q _ rfl (.guarded (((decide (y.1 = y2.1)) && (decide (y.2.1 = y2.2.1))) == true) rfl rfl rfl rfl fun h => tBool_eq .eql (by simp) (ow rfl h) (ow rfl h) tB4) ?_
 refine R_q _ rfl (v_and (ov rfl) (fun hp => ow rfl (gT hp))) ?_
 refine R_q _ rfl (v_move (ov rfl)) ?_
 refine R_q _ rfl (.guarded ((((decide (y.1 = y2.1)) && (decide (y.2.1 = y2.2.1))) && (y.2.2.1 == y2.2.2.1)) == true) rfl rfl rfl rfl fun h => v_move (ov rfl)) ?_
 refine R_q _ rfl (.guarded ((((decide (y.1 = y2.1)) && (decide (y.2.1 = y2.2.1))) && (y.2.2.1 == y2.2.2.1)) == true) rfl rfl rfl rfl fun h => v_move (ov rfl)) ?_
 refine R_q _ rfl (.guarded ((((decide (y.1 = y2.1)) && (decide (y.2.1 = y2.2.1))) && (y.2.2.1 == y2.2.2.1)) == true) rfl rfl rfl rfl fun h => v_eql (ow rfl h) (ow rfl h)) ?_
 refine R_q _ rfl (v_and (ov rfl) (fun hp => ow rfl (gT hp))) ?_
 refine R_q _ rfl (v_move (ov rfl)) ?_
 obtain ⟨y3, h_y3, h⟩ := bnd h
 refine R_q _ rfl (.guarded (((((decide (y.1 = y2.1)) && (decide (y.2.1 = y2.2.1))) && (y.2.2.1 == y2.2.2.1)) && (decide (y.2.2.2 = y2.2.2.2))) == true) rfl rfl rfl rfl fun h => v_call (ok_law8_shown (gdT h_y3 h)) (.nil)) ?_
 refine R_q _ rfl (v_and (ov rfl) (fun hp => ow rfl (gT hp))) ?_
 refine R_q _ rfl (v_assign (ov rfl)) ?_
 refine R_nil ?_
 obtain rfl := rt (v := (((((decide (y.1 = y2.1)) && (decide (y.2.1 = y2.2.1))) && (y.2.2.1 == y2.2.2.1)) && (decide (y.2.2.2 = y2.2.2.2))) && y3)) h
 refine T_ret (retq ?_ (.one (.tmp rfl (Dat.view (.b rfl)))))
 rfl
end Go.Proofs.YtafmdjdjabifjaaGreatDoor
