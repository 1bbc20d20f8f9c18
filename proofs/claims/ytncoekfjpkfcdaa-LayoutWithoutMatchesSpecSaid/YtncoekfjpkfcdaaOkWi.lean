/- A text of the proof: a verified executor of the program form, or the contracts of the functions that the law reaches. -/
import Derived.Test.YtncoekfjpkfcdaaOkWia
set_option linter.all false
namespace Go.Proofs.Ytncoekfjpkfcdaa
open Go Go.Vx
set_option maxRecDepth 10000
set_option maxHeartbeats 1000000
set_option linter.unusedVariables false
theorem ok_ref2_taken_take {t : List ((Vector Int 3) × Bool)} {l : List api_Place} {r : Bool × (List ((Vector Int 3) × Bool))} (h : ref2_taken_take t l = some r) :
  GSpec Try.prog gl0 121 [.mref 0 1, .sl 66 (List.map R66 l)] [some ⟨117, [[.mcon (List.map (mrow FK167 FV4) t)]]⟩] (.bool r.1) [some ⟨117, [[.mcon (List.map (mrow FK167 FV4) r.2)]]⟩] := by
 unfold ref2_taken_take at h
 replace h := bnd0 h
 refine gspec_of (by kernel_rfl) Try.func121 rfl rfl ?_
 intro w0 A W φ0
 refine T_seq (T_reg ?_)
 refine R_q _ rfl (v_assign (ov rfl)) ?_
 refine R_nil ?_
 refine T_keep (kc 0 rfl <| kc 1 rfl <| kn) rfl ?_
 refine T_seq (T_reg ?_)
 refine R_q _ rfl (v_assign (ov rfl)) ?_
 refine R_nil ?_
 refine T_joinG id (t2 fun o ok => ⟨[(5, .bool ok)], [some ⟨117, [[.mcon (List.map (mrow FK167 FV4) o)]]⟩]⟩) h (fun h => ?_) (fun j h => ?_)
 ·
  refine T_seq (T_reg ?_)
  refine R_q _ rfl (v_move (ov rfl)) ?_
  refine R_q _ rfl (v_len (slv_sl (ov rfl) tZ_66) tL52 (len_map _ _)) ?_
  refine R_q _ rfl (v_move (ov rfl)) ?_
  refine R_nil ?_
  refine T_block ?_
  obtain ⟨r1, hl1, ho1⟩ := bndL h
  refine T_loopG _ (t3 fun o2 ok2 i => ⟨[(0, .mref 0 1), (5, .bool ok2), (10, .sl 66 (List.map R66 l)), (11, .int .i64 (l.length : Int)), (12, .int .i64 i)], [some ⟨117, [[.mcon (List.map (mrow FK167 FV4) o2)]]⟩]⟩) _ hl1 (Ent.sel [some 0] (sr 0 rfl (.mref _ rfl) <| sd 5 rfl rfl <| sd 10 rfl rfl <| sd 11 rfl rfl <| sd 12 rfl rfl <| sn) (.cons rfl (roMap (fk := FK167) (fv := FV4) (m := t) tZ_117 (fun _ => rAgg (rld (arD fun _ => rfl))) (fun _ => .ren (.dat rfl))) <| .nil) rfl rfl) (fun n1 s1 h => ?_)
  obtain ⟨o2, ok2, i⟩ := s1
  replace h := t3i h
  refine t3T ?_
  unfold ref2_taken_take_L1 at h
  refine T_seq (T_reg ?_)
  refine R_q _ rfl (v_lss (ov rfl) (ov rfl)) ?_
  refine R_nil ?_
  refine T_seq ?_
  refine T_if h rfl (fun b13 h => ?_) (fun b13 h => ?_)
  ·
   refine T_skip ?_
   refine T_joinG id (t2 fun o3 ok3 => ⟨[(0, .mref 0 1), (5, .bool ok3), (10, .sl 66 (List.map R66 l)), (11, .int .i64 (l.length : Int)), (12, .int .i64 i)], [some ⟨117, [[.mcon (List.map (mrow FK167 FV4) o3)]]⟩]⟩) h (fun h => ?_) (fun j h => ?_)
   ·
    refine T_block ?_
    refine T_keep (kc 0 rfl <| kc 5 rfl <| kc 10 rfl <| kc 11 rfl <| kc 12 rfl <| kn) rfl ?_
    refine T_seq (T_reg ?_)
    obtain ⟨x, h_x, h⟩ := bnd h
    refine R_q _ rfl (v_ixSG (ov rfl) (ov rfl) tL52 h_x) ?_
    refine R_q _ rfl (v_loadA_r (ov rfl) tA66 rfl rfl) ?_
    refine R_w _ _ rfl (w_alloc (row := [_, _, _, _]) 1 rfl tZ66 rfl tZ_66) ?_
    refine R_w _ _ rfl (w_store (ov rfl) (ov rfl) (cells_agg tA66 rfl) rfl rfl rfl (Nat.le_of_ble_eq_true rfl) (cell1_all rfl) rfl) ?_
    refine R_nil ?_
    refine T_keep (kc 0 rfl <| kc 5 rfl <| kc 7 rfl <| kc 10 rfl <| kc 11 rfl <| kc 12 rfl <| kn) rfl ?_
    refine T_seq (T_reg ?_)
    refine R_q _ rfl (v_fieldP (ov rfl) rfl rfl tF66_2) ?_
    refine R_q _ rfl (v_loadS (ov rfl) rfl rfl rfl tS3 rfl) ?_
    refine R_q _ rfl (v_assign (ov rfl)) ?_
    refine R_nil ?_
    refine T_block ?_
    obtain ⟨r2, hl2, ho2⟩ := bndL h
    refine T_loopG _ (t3 fun o4 ok4 b => ⟨[(0, .mref 0 1), (5, .bool ok4), (7, .ptr 1 1 0 0), (8, .int .i64 b), (10, .sl 66 (List.map R66 l)), (11, .int .i64 (l.length : Int)), (12, .int .i64 i)], [some ⟨117, [[.mcon (List.map (mrow FK167 FV4) o4)]]⟩, some ⟨66, [[.int .i64 x.Frame, .int .i64 x.Word, .int .i64 x.Low, .int .i64 x.Bits]]⟩]⟩) _ hl2 (Ent.sel [some 0, some 1] (sr 0 rfl (.mref _ rfl) <| sd 5 rfl rfl <| sr 7 rfl (.ptr _ _ _ rfl) <| sd 8 rfl rfl <| sd 10 rfl rfl <| sd 11 rfl rfl <| sd 12 rfl rfl <| sn) (.cons rfl (roMap (fk := FK167) (fv := FV4) (m := o2) tZ_117 (fun _ => rAgg (rld (arD fun _ => rfl))) (fun _ => .ren (.dat rfl))) <| .cons rfl (ro1 (by exact tZ_66.symm) (rld rfl)) <| .nil) rfl rfl) (fun n2 s2 h => ?_)
    obtain ⟨o4, ok4, b⟩ := s2
    replace h := t3i h
    refine t3T ?_
    unfold ref2_taken_take_L2 at h
    refine T_seq ?_
    refine T_seq (T_reg ?_)
    refine R_q _ rfl (v_move (ov rfl)) ?_
    refine R_q _ rfl (v_fieldP (ov rfl) rfl rfl tF66_2) ?_
    refine R_q _ rfl (v_loadS (ov rfl) rfl rfl rfl tS3 rfl) ?_
    refine R_q _ rfl (v_fieldP (ov rfl) rfl rfl tF66_3) ?_
    refine R_q _ rfl (v_loadS (ov rfl) rfl rfl rfl tS3 rfl) ?_
    refine R_q _ rfl (v_add (ov rfl) (ov rfl) rfl) ?_
    refine R_q _ rfl (v_lss (ov rfl) (ov rfl)) ?_
    refine R_nil ?_
    refine T_keep (kc 0 rfl <| kc 5 rfl <| kc 7 rfl <| kc 8 rfl <| kc 10 rfl <| kc 11 rfl <| kc 12 rfl <| kc 24 rfl <| kn) rfl ?_
    refine T_if h rfl (fun b24 h => ?_) (fun b24 h => ?_)
    ·
     refine T_skip ?_
     refine T_seq ?_
     refine T_block ?_
     refine T_keep (kc 0 rfl <| kc 5 rfl <| kc 7 rfl <| kc 8 rfl <| kc 10 rfl <| kc 11 rfl <| kc 12 rfl <| kn) rfl ?_
     refine T_seq (T_reg ?_)
     refine R_q _ rfl (v_fieldP (ov rfl) rfl rfl tF66_0) ?_
     refine R_q _ rfl (v_loadS (ov rfl) rfl rfl rfl tS3 rfl) ?_
     refine R_q _ rfl (v_fieldP (ov rfl) rfl rfl tF66_1) ?_
     refine R_q _ rfl (v_loadS (ov rfl) rfl rfl rfl tS3 rfl) ?_
     refine R_q _ rfl (v_move (ov rfl)) ?_
     refine R_q (.agg (List.map C3 (#v[x.Frame, x.Word, b] : Vector Int 3).toList)) rfl (v_buildA (ys := [_, _, _]) tR167 tZ167 (.cons (cvs (ov rfl) (cell1_b rfl)) <| .cons (cvs (ov rfl) (cell1_b rfl)) <| .cons (cvs (ov rfl) (cell1_b rfl)) <| .nil) rfl) ?_
     refine R_w _ _ rfl (w_alloc (row := (List.map C3 (Vector.replicate 3 0).toList)) 2 rfl tZ167 rfl tZ_167) ?_
     refine R_w _ _ rfl (w_store (ov rfl) (ov rfl) (cells_agg tA167 arL) rfl rfl rfl (Nat.le_of_eq (by simp)) (cell1_all (arC fun _ => rfl)) (arWhole (by simp))) ?_
     refine R_nil ?_
     refine T_keep (kc 0 rfl <| kc 5 rfl <| kc 7 rfl <| kc 8 rfl <| kc 9 rfl <| kc 10 rfl <| kc 11 rfl <| kc 12 rfl <| kn) rfl ?_
     refine T_seq (T_reg ?_)
     refine R_q _ rfl (v_move (ov rfl)) ?_
     refine R_q _ rfl (v_move (ov rfl)) ?_
     refine R_q _ rfl (.guarded (ok4 == true) rfl rfl rfl rfl fun h => v_move (ov rfl)) ?_
     refine R_q _ rfl (.guarded (ok4 == true) rfl rfl rfl rfl fun h => v_loadA (ov rfl) rfl rfl rfl tA167 arW arL) ?_
     obtain ⟨o5, h_o5, h⟩ := bnd h
     refine R_q _ rfl (.guarded (ok4 == true) rfl rfl rfl rfl fun h => v_lk1 (m := o4) (fk := FK167) (fv := FV4) (k := (#v[x.Frame, x.Word, b] : Vector Int 3)) (z0 := false) (ow rfl h) (ow rfl h) tMp117 tKO167 rfl (fun _ => .aggB (arD fun _ => rfl)) (zero_scal tZV4 rfl) (fun _ _ => rfl) (gdT h_o5 h)) ?_
     refine R_q _ rfl (.guarded (ok4 == true) rfl rfl rfl rfl fun h => v_not (ow rfl h)) ?_
     refine R_q _ rfl (v_and (ov rfl) (fun hp => ow rfl (gT hp))) ?_
     refine R_q _ rfl (v_assign (ov rfl)) ?_
     refine R_nil ?_
     refine T_keep (kc 0 rfl <| kc 5 rfl <| kc 7 rfl <| kc 8 rfl <| kc 9 rfl <| kc 10 rfl <| kc 11 rfl <| kc 12 rfl <| kn) rfl ?_
     refine T_reg ?_
     refine R_q _ rfl (v_move (ov rfl)) ?_
     refine R_q _ rfl (v_loadA (ov rfl) rfl rfl rfl tA167 arW arL) ?_
     refine R_w _ _ rfl (w_mapUpd (m := o4) (fk := FK167) (fv := FV4) (k := (#v[x.Frame, x.Word, b] : Vector Int 3)) (v := true) (ov rfl) (ov rfl) (ov rfl) tMp117 tKO167 rfl (fun _ => .aggB (arD fun _ => rfl))) ?_
     refine R_nil ?_
     refine T_keep (kc 0 rfl <| kc 5 rfl <| kc 7 rfl <| kc 8 rfl <| kc 10 rfl <| kc 11 rfl <| kc 12 rfl <| kn) rfl ?_
     refine T_reg ?_
     refine R_q _ rfl (v_move (ov rfl)) ?_
     refine R_q _ rfl (v_add (ov rfl) (ov rfl) rfl) ?_
     refine R_q _ rfl (v_assign (ov rfl)) ?_
     refine R_nil ?_
     exact ⟨((mput kqV o4 (#v[x.Frame, x.Word, b] : Vector Int 3) true), (ok4 && (!o5)), (i64 (b + 1))), h, Ent.sel [some 0, some 1] (sr 0 rfl (.mref _ rfl) <| sd 5 rfl rfl <| sr 7 rfl (.ptr _ _ _ rfl) <| sd 8 rfl rfl <| sd 10 rfl rfl <| sd 11 rfl rfl <| sd 12 rfl rfl <| sn) (.cons rfl (roMap (fk := FK167) (fv := FV4) (m := (mput kqV o4 (#v[x.Frame, x.Word, b] : Vector Int 3) true)) tZ_117 (fun _ => rAgg (rld (arD fun _ => rfl))) (fun _ => .ren (.dat rfl))) <| .cons rfl (ro1 (by exact tZ_66.symm) (rld rfl)) <| .nil) rfl rfl⟩
    ·
     refine T_exit ?_
     rw [lx h] at ho2
     replace h := ho2
     exact ⟨(o4, ok4), h, Ent.sel [some 0] (sr 0 rfl (.mref _ rfl) <| sd 5 rfl rfl <| sd 10 rfl rfl <| sd 11 rfl rfl <| sd 12 rfl rfl <| sn) (.cons rfl (roMap (fk := FK167) (fv := FV4) (m := o4) tZ_117 (fun _ => rAgg (rld (arD fun _ => rfl))) (fun _ => .ren (.dat rfl))) <| .nil) rfl rfl⟩
   ·
    obtain ⟨o3, ok3⟩ := j
    replace h := t2i h
    refine t2T ?_
    refine T_reg ?_
    refine R_q _ rfl (v_add (ov rfl) (ov rfl) rfl) ?_
    refine R_q _ rfl (v_move (ov rfl)) ?_
    refine R_nil ?_
    exact ⟨(o3, ok3, (i64 (i + 1))), h, Ent.sel [some 0] (sr 0 rfl (.mref _ rfl) <| sd 5 rfl rfl <| sd 10 rfl rfl <| sd 11 rfl rfl <| sd 12 rfl rfl <| sn) (.cons rfl (roMap (fk := FK167) (fv := FV4) (m := o3) tZ_117 (fun _ => rAgg (rld (arD fun _ => rfl))) (fun _ => .ren (.dat rfl))) <| .nil) rfl rfl⟩
  ·
   refine T_exit ?_
   rw [lx h] at ho1
   replace h := ho1
   exact ⟨(o2, ok2), h, Ent.sel [some 0] (sd 5 rfl rfl <| sn) (.cons rfl (roMap (fk := FK167) (fv := FV4) (m := o2) tZ_117 (fun _ => rAgg (rld (arD fun _ => rfl))) (fun _ => .ren (.dat rfl))) <| .nil) rfl rfl⟩
 ·
  obtain ⟨o, ok⟩ := j
  replace h := t2i h
  refine t2T ?_
  refine T_seq (T_reg ?_)
  refine R_q _ rfl (v_move (ov rfl)) ?_
  refine R_q _ rfl (v_assign (ov rfl)) ?_
  refine R_nil ?_
  obtain rfl := rt (v := (ok, o)) h
  refine T_ret ?_
  exact retg [some 0] rfl (.cons (.tmp rfl) <| .nil) (.cons rfl (roMap (fk := FK167) (fv := FV4) (m := o) tZ_117 (fun _ => rAgg (rld (arD fun _ => rfl))) (fun _ => .ren (.dat rfl))) <| .nil) rfl rfl (.dat rfl)

theorem ok_ref2_taken_takeAll {t : List ((Vector Int 3) × Bool)} {l : List api_Cell} {r : Bool × (List ((Vector Int 3) × Bool))} (h : ref2_taken_takeAll t l = some r) :
  GSpec Try.prog gl0 78 [.mref 0 1, .sl 54 (List.map R54 l)] [some ⟨117, [[.mcon (List.map (mrow FK167 FV4) t)]]⟩] (.bool r.1) [some ⟨117, [[.mcon (List.map (mrow FK167 FV4) r.2)]]⟩] := by
 unfold ref2_taken_takeAll at h
 replace h := bnd0 h
 refine gspec_of (by kernel_rfl) Try.func78 rfl rfl ?_
 intro w0 A W φ0
 refine T_seq (T_reg ?_)
 refine R_q _ rfl (v_assign (ov rfl)) ?_
 refine R_nil ?_
 refine T_keep (kc 0 rfl <| kc 1 rfl <| kn) rfl ?_
 refine T_seq (T_reg ?_)
 refine R_q _ rfl (v_assign (ov rfl)) ?_
 refine R_nil ?_
 refine T_joinG id (t2 fun o ok => ⟨[(5, .bool ok)], [some ⟨117, [[.mcon (List.map (mrow FK167 FV4) o)]]⟩]⟩) h (fun h => ?_) (fun j h => ?_)
 ·
  refine T_seq (T_reg ?_)
  refine R_q _ rfl (v_move (ov rfl)) ?_
  refine R_q _ rfl (v_len (slv_sl (ov rfl) tZ_54) tL62 (len_map _ _)) ?_
  refine R_q _ rfl (v_move (ov rfl)) ?_
  refine R_nil ?_
  refine T_block ?_
  obtain ⟨r1, hl1, ho1⟩ := bndL h
  refine T_loopG _ (t3 fun o2 ok2 i => ⟨[(0, .mref 0 1), (5, .bool ok2), (8, .sl 54 (List.map R54 l)), (9, .int .i64 (l.length : Int)), (10, .int .i64 i)], [some ⟨117, [[.mcon (List.map (mrow FK167 FV4) o2)]]⟩]⟩) _ hl1 (Ent.sel [some 0] (sr 0 rfl (.mref _ rfl) <| sd 5 rfl rfl <| sd 8 rfl rfl <| sd 9 rfl rfl <| sd 10 rfl rfl <| sn) (.cons rfl (roMap (fk := FK167) (fv := FV4) (m := t) tZ_117 (fun _ => rAgg (rld (arD fun _ => rfl))) (fun _ => .ren (.dat rfl))) <| .nil) rfl rfl) (fun n1 s1 h => ?_)
  obtain ⟨o2, ok2, i⟩ := s1
  replace h := t3i h
  refine t3T ?_
  unfold ref2_taken_takeAll_L1 at h
  refine T_seq (T_reg ?_)
  refine R_q _ rfl (v_lss (ov rfl) (ov rfl)) ?_
  refine R_nil ?_
  refine T_seq ?_
  refine T_if h rfl (fun b11 h => ?_) (fun b11 h => ?_)
  ·
   refine T_skip ?_
   refine T_seq ?_
   refine T_block ?_
   refine T_keep (kc 0 rfl <| kc 5 rfl <| kc 8 rfl <| kc 9 rfl <| kc 10 rfl <| kn) rfl ?_
   refine T_seq (T_reg ?_)
   obtain ⟨x, h_x, h⟩ := bnd h
   refine R_q _ rfl (v_ixSG (ov rfl) (ov rfl) tL62 h_x) ?_
   refine R_q _ rfl (v_loadA_r (ov rfl) tA54 rfl rfl) ?_
   refine R_w _ _ rfl (w_alloc (row := [_, _, _, _]) 1 rfl tZ54 rfl tZ_54) ?_
   refine R_w _ _ rfl (w_store (ov rfl) (ov rfl) (cells_agg tA54 rfl) rfl rfl rfl (Nat.le_of_ble_eq_true rfl) (cell1_all rfl) rfl) ?_
   refine R_nil ?_
   refine T_keep (kc 0 rfl <| kc 5 rfl <| kc 7 rfl <| kc 8 rfl <| kc 9 rfl <| kc 10 rfl <| kn) rfl ?_
   refine T_seq (T_reg ?_)
   refine R_q _ rfl (v_move (ov rfl)) ?_
   refine R_q _ rfl (v_fieldP (ov rfl) rfl rfl tF54_3) ?_
   refine R_q _ rfl (v_loadS (ov rfl) rfl rfl rfl tS52 rfl) ?_
   obtain ⟨y, h_y, h⟩ := bnd h
   refine R_w _ _ rfl (w_callG [0] (ok_ref2_taken_take h_y) (.cons (ov rfl) (.mref _ rfl) <| .cons (ov rfl) (.dat rfl) <| .nil) (.cons rfl (roMap (fk := FK167) (fv := FV4) (m := o2) tZ_117 (fun _ => rAgg (rld (arD fun _ => rfl))) (fun _ => .ren (.dat rfl))) <| .nil) rfl (.lent 0 (.inl rfl) rfl (roMap (fk := FK167) (fv := FV4) (m := y.2) tZ_117 (fun _ => rAgg (rld (arD fun _ => rfl))) (fun _ => .ren (.dat rfl))) <| .keep rfl rfl <| .nil) rfl rfl (.dat rfl)) ?_
   refine R_q _ rfl (v_not (ov rfl)) ?_
   refine R_nil ?_
   refine T_keep (kc 0 rfl <| kc 5 rfl <| kc 8 rfl <| kc 9 rfl <| kc 10 rfl <| kc 18 rfl <| kn) rfl ?_
   refine T_if h rfl (fun b18 h => ?_) (fun b18 h => ?_)
   ·
    refine T_keep (kc 0 rfl <| kc 5 rfl <| kc 8 rfl <| kc 9 rfl <| kc 10 rfl <| kn) rfl ?_
    refine T_reg ?_
    refine R_q _ rfl (v_assign (ov rfl)) ?_
    refine R_nil ?_
    refine T_reg ?_
    refine R_q _ rfl (v_add (ov rfl) (ov rfl) rfl) ?_
    refine R_q _ rfl (v_move (ov rfl)) ?_
    refine R_nil ?_
    exact ⟨(y.2, false, (i64 (i + 1))), h, Ent.sel [some 0] (sr 0 rfl (.mref _ rfl) <| sd 5 rfl rfl <| sd 8 rfl rfl <| sd 9 rfl rfl <| sd 10 rfl rfl <| sn) (.cons rfl (roMap (fk := FK167) (fv := FV4) (m := y.2) tZ_117 (fun _ => rAgg (rld (arD fun _ => rfl))) (fun _ => .ren (.dat rfl))) <| .nil) rfl rfl⟩
   ·
    refine T_skip ?_
    refine T_keep (kc 0 rfl <| kc 5 rfl <| kc 8 rfl <| kc 9 rfl <| kc 10 rfl <| kn) rfl ?_
    refine T_reg ?_
    refine R_q _ rfl (v_add (ov rfl) (ov rfl) rfl) ?_
    refine R_q _ rfl (v_move (ov rfl)) ?_
    refine R_nil ?_
    exact ⟨(y.2, ok2, (i64 (i + 1))), h, Ent.sel [some 0] (sr 0 rfl (.mref _ rfl) <| sd 5 rfl rfl <| sd 8 rfl rfl <| sd 9 rfl rfl <| sd 10 rfl rfl <| sn) (.cons rfl (roMap (fk := FK167) (fv := FV4) (m := y.2) tZ_117 (fun _ => rAgg (rld (arD fun _ => rfl))) (fun _ => .ren (.dat rfl))) <| .nil) rfl rfl⟩
  ·
   refine T_exit ?_
   rw [lx h] at ho1
   replace h := ho1
   exact ⟨(o2, ok2), h, Ent.sel [some 0] (sd 5 rfl rfl <| sn) (.cons rfl (roMap (fk := FK167) (fv := FV4) (m := o2) tZ_117 (fun _ => rAgg (rld (arD fun _ => rfl))) (fun _ => .ren (.dat rfl))) <| .nil) rfl rfl⟩
 ·
  obtain ⟨o, ok⟩ := j
  replace h := t2i h
  refine t2T ?_
  refine T_seq (T_reg ?_)
  refine R_q _ rfl (v_move (ov rfl)) ?_
  refine R_q _ rfl (v_assign (ov rfl)) ?_
  refine R_nil ?_
  obtain rfl := rt (v := (ok, o)) h
  refine T_ret ?_
  exact retg [some 0] rfl (.cons (.tmp rfl) <| .nil) (.cons rfl (roMap (fk := FK167) (fv := FV4) (m := o) tZ_117 (fun _ => rAgg (rld (arD fun _ => rfl))) (fun _ => .ren (.dat rfl))) <| .nil) rfl rfl (.dat rfl)

theorem ok_ref2_CheckParam {p : api_Param} {r : Int} (h : ref2_CheckParam p = some r) :
  CSpec Try.prog gl0 22 [.agg [.str p.Name, .int .i64 p.Kind, .sl 109 (List.map R109 p.Parts), .int .i64 p.First, .int .i64 p.Every, .int .i64 p.Times, .int .i64 p.Step, .sl 9 (List.map R9 p.Names)]] (.int .i64 r) := by
 unfold ref2_CheckParam at h
 replace h := bnd0 h
 refine spec_of (by kernel_rfl) Try.func22 rfl rfl ?_
 intro w0 A
 refine T_seq (T_reg ?_)
 refine R_q _ rfl (v_boxD (cva (ov rfl)) rfl tZ_43 rfl) ?_
 refine R_q _ rfl (v_assign (ov rfl)) ?_
 refine R_nil ?_
 refine T_seq ?_
 refine T_keep (kc 1 rfl <| kn) rfl ?_
 refine T_seq (T_reg ?_)
 refine R_q _ rfl (v_fieldR (ov rfl) tF43_0) ?_
 refine R_q _ rfl (v_loadS_r (ov rfl) tS9 rfl) ?_
 obtain ⟨y, h_y, h⟩ := bnd h
 refine R_q _ rfl (v_call (ok_ref2_IsName h_y) (.cons (ov rfl) (.b rfl) <| .nil)) ?_
 refine R_q _ rfl (v_not (ov rfl)) ?_
 refine R_nil ?_
 refine T_keep (kc 1 rfl <| kc 10 rfl <| kn) rfl ?_
 refine T_if h rfl (fun b10 h => ?_) (fun b10 h => ?_)
 ·
  refine T_keep (kn) rfl ?_
  refine T_seq (T_reg ?_)
  refine R_q _ rfl (v_assign (ov rfl)) ?_
  refine R_nil ?_
  obtain rfl := rt (v := 8) h
  refine T_ret (retq ?_ (.one (.tmp rfl (Dat.view (.b rfl)))))
  rfl
 ·
  refine T_skip ?_
  refine T_seq ?_
  refine T_keep (kc 1 rfl <| kn) rfl ?_
  refine T_seq (T_reg ?_)
  refine R_q _ rfl (v_fieldR (ov rfl) tF43_1) ?_
  refine R_q _ rfl (v_loadS_r (ov rfl) tS3 rfl) ?_
  obtain ⟨y2, h_y2, h⟩ := bnd h
  refine R_q _ rfl (v_call (ok_ref2_outside h_y2) (.cons (ov rfl) (.b rfl) <| .cons (ov rfl) (.b rfl) <| .cons (ov rfl) (.b rfl) <| .nil)) ?_
  refine R_nil ?_
  refine T_keep (kc 1 rfl <| kc 13 rfl <| kn) rfl ?_
  refine T_if h rfl (fun b13 h => ?_) (fun b13 h => ?_)
  ·
   refine T_keep (kn) rfl ?_
   refine T_seq (T_reg ?_)
   refine R_q _ rfl (v_assign (ov rfl)) ?_
   refine R_nil ?_
   obtain rfl := rt (v := 7) h
   refine T_ret (retq ?_ (.one (.tmp rfl (Dat.view (.b rfl)))))
   rfl
  ·
   refine T_skip ?_
   refine T_seq ?_
   refine T_keep (kc 1 rfl <| kn) rfl ?_
   refine T_seq (T_reg ?_)
   refine R_q _ rfl (v_loadA_r (ov rfl) tA43 rfl rfl) ?_
   obtain ⟨y3, h_y3, h⟩ := bnd h
   refine R_q _ rfl (v_call (ok_ref2_partsFault h_y3) (.cons (ov rfl) (.aggB rfl) <| .nil)) ?_
   refine R_q _ rfl (v_assign (ov rfl)) ?_
   refine R_nil ?_
   refine T_keep (kc 1 rfl <| kc 3 rfl <| kn) rfl ?_
   refine T_seq (T_reg ?_)
   refine R_q _ rfl (v_move (ov rfl)) ?_
   refine R_q _ rfl (v_neq (ov rfl) (ov rfl)) ?_
   refine R_nil ?_
   refine T_keep (kc 1 rfl <| kc 3 rfl <| kc 17 rfl <| kn) rfl ?_
   refine T_if h rfl (fun b17 h => ?_) (fun b17 h => ?_)
   ·
    refine T_keep (kc 3 rfl <| kn) rfl ?_
    refine T_seq (T_reg ?_)
    refine R_q _ rfl (v_move (ov rfl)) ?_
    refine R_q _ rfl (v_assign (ov rfl)) ?_
    refine R_nil ?_
    obtain rfl := rt (v := y3) h
    refine T_ret (retq ?_ (.one (.tmp rfl (Dat.view (.b rfl)))))
    rfl
   ·
    refine T_skip ?_
    refine T_seq ?_
    refine T_keep (kc 1 rfl <| kn) rfl ?_
    refine T_seq (T_reg ?_)
    refine R_q _ rfl (v_loadA_r (ov rfl) tA43 rfl rfl) ?_
    obtain ⟨y4, h_y4, h⟩ := bnd h
    refine R_q _ rfl (v_call (ok_ref2_timesFault h_y4) (.cons (ov rfl) (.aggB rfl) <| .nil)) ?_
    refine R_q _ rfl (v_assign (ov rfl)) ?_
    refine R_nil ?_
    refine T_keep (kc 1 rfl <| kc 4 rfl <| kn) rfl ?_
    refine T_seq (T_reg ?_)
    refine R_q _ rfl (v_move (ov rfl)) ?_
    refine R_q _ rfl (v_neq (ov rfl) (ov rfl)) ?_
    refine R_nil ?_
    refine T_keep (kc 1 rfl <| kc 4 rfl <| kc 22 rfl <| kn) rfl ?_
    refine T_if h rfl (fun b22 h => ?_) (fun b22 h => ?_)
    ·
     refine T_keep (kc 4 rfl <| kn) rfl ?_
     refine T_seq (T_reg ?_)
     refine R_q _ rfl (v_move (ov rfl)) ?_
     refine R_q _ rfl (v_assign (ov rfl)) ?_
     refine R_nil ?_
     obtain rfl := rt (v := y4) h
     refine T_ret (retq ?_ (.one (.tmp rfl (Dat.view (.b rfl)))))
     rfl
    ·
     refine T_skip ?_
     refine T_seq ?_
     refine T_keep (kc 1 rfl <| kn) rfl ?_
     refine T_seq (T_reg ?_)
     refine R_q _ rfl (v_loadA_r (ov rfl) tA43 rfl rfl) ?_
     obtain ⟨y5, h_y5, h⟩ := bnd h
     refine R_q _ rfl (v_call (ok_ref2_kindFault h_y5) (.cons (ov rfl) (.aggB rfl) <| .nil)) ?_
     refine R_q _ rfl (v_assign (ov rfl)) ?_
     refine R_nil ?_
     refine T_keep (kc 1 rfl <| kc 5 rfl <| kn) rfl ?_
     refine T_seq (T_reg ?_)
     refine R_q _ rfl (v_move (ov rfl)) ?_
     refine R_q _ rfl (v_neq (ov rfl) (ov rfl)) ?_
     refine R_nil ?_
     refine T_keep (kc 1 rfl <| kc 5 rfl <| kc 27 rfl <| kn) rfl ?_
     refine T_if h rfl (fun b27 h => ?_) (fun b27 h => ?_)
     ·
      refine T_keep (kc 5 rfl <| kn) rfl ?_
      refine T_seq (T_reg ?_)
      refine R_q _ rfl (v_move (ov rfl)) ?_
      refine R_q _ rfl (v_assign (ov rfl)) ?_
      refine R_nil ?_
      obtain rfl := rt (v := y5) h
      refine T_ret (retq ?_ (.one (.tmp rfl (Dat.view (.b rfl)))))
      rfl
     ·
      refine T_skip ?_
      refine T_keep (kc 1 rfl <| kn) rfl ?_
      refine T_seq (T_reg ?_)
      refine R_q _ rfl (v_loadA_r (ov rfl) tA43 rfl rfl) ?_
      obtain ⟨y6, h_y6, h⟩ := bnd h
      refine R_q _ rfl (v_call (ok_ref2_cells h_y6) (.cons (ov rfl) (.aggB rfl) <| .cons (ov rfl) (.b rfl) <| .nil)) ?_
      refine R_q _ rfl (v_assign (ov rfl)) ?_
      refine R_nil ?_
      refine T_seq ?_
      refine T_keep (kc 6 rfl <| kn) rfl ?_
      refine T_seq (T_reg ?_)
      refine R_w _ _ rfl (w_makeMap 0 rfl tMp117) ?_
      refine R_q _ rfl (v_move (ov rfl)) ?_
      obtain ⟨y7, h_y7, h⟩ := bnd h
      refine R_w _ _ rfl (w_callG [0] (ok_ref2_taken_takeAll h_y7) (.cons (ov rfl) (.mref _ rfl) <| .cons (ov rfl) (.dat rfl) <| .nil) (.cons rfl (roMap (fk := FK167) (fv := FV4) (m := ([] : List ((Vector Int 3) × Bool))) tZ_117 (fun _ => rAgg (rld (arD fun _ => rfl))) (fun _ => .ren (.dat rfl))) <| .nil) rfl (.lent 0 (.inl rfl) rfl (roMap (fk := FK167) (fv := FV4) (m := y7.2) tZ_117 (fun _ => rAgg (rld (arD fun _ => rfl))) (fun _ => .ren (.dat rfl))) <| .nil) rfl rfl (.dat rfl)) ?_
      refine R_q _ rfl (v_not (ov rfl)) ?_
      refine R_nil ?_
      refine T_keep (kc 6 rfl <| kc 34 rfl <| kn) rfl ?_
      refine T_if h rfl (fun b34 h => ?_) (fun b34 h => ?_)
      ·
       refine T_keep (kn) rfl ?_
       refine T_seq (T_reg ?_)
       refine R_q _ rfl (v_assign (ov rfl)) ?_
       refine R_nil ?_
       obtain rfl := rt (v := 5) h
       refine T_ret (retq ?_ (.one (.tmp rfl (Dat.view (.b rfl)))))
       rfl
      ·
       refine T_skip ?_
       refine T_seq ?_
       refine T_keep (kc 6 rfl <| kn) rfl ?_
       refine T_seq (T_reg ?_)
       refine R_q _ rfl (v_move (ov rfl)) ?_
       refine R_q _ rfl (v_len (slv_sl (ov rfl) tZ_54) tL62 (len_map _ _)) ?_
       refine R_q _ rfl (v_eql (ov rfl) (ov rfl)) ?_
       refine R_nil ?_
       refine T_keep (kc 37 rfl <| kn) rfl ?_
       refine T_if h rfl (fun b37 h => ?_) (fun b37 h => ?_)
       ·
        refine T_keep (kn) rfl ?_
        refine T_seq (T_reg ?_)
        refine R_q _ rfl (v_assign (ov rfl)) ?_
        refine R_nil ?_
        obtain rfl := rt (v := 13) h
        refine T_ret (retq ?_ (.one (.tmp rfl (Dat.view (.b rfl)))))
        rfl
       ·
        refine T_skip ?_
        refine T_keep (kn) rfl ?_
        refine T_seq (T_reg ?_)
        refine R_q _ rfl (v_assign (ov rfl)) ?_
        refine R_nil ?_
        obtain rfl := rt (v := 0) h
        refine T_ret (retq ?_ (.one (.tmp rfl (Dat.view (.b rfl)))))
        rfl

theorem ok_ref2_Check {m : api_Map} {r : Int × Int} (h : ref2_Check m = some r) :
  CSpec Try.prog gl0 46 [.agg [.int .i64 m.Version, .sl 43 (List.map R43 m.Params)]] (.tuple [.int .i64 r.1, .int .i64 r.2]) := by
 unfold ref2_Check at h
 replace h := bnd0 h
 refine spec_of (by kernel_rfl) Try.func46 rfl rfl ?_
 intro w0 A
 refine T_seq (T_reg ?_)
 refine R_q _ rfl (v_boxD (cva (ov rfl)) rfl tZ_24 rfl) ?_
 refine R_q _ rfl (v_assign (ov rfl)) ?_
 refine R_q _ rfl (v_assign (ov rfl)) ?_
 refine R_nil ?_
 refine T_seq ?_
 refine T_keep (kc 1 rfl <| kn) rfl ?_
 refine T_seq (T_reg ?_)
 refine R_q _ rfl (v_fieldR (ov rfl) tF24_0) ?_
 refine R_q _ rfl (v_loadS_r (ov rfl) tS3 rfl) ?_
 obtain ⟨y, h_y, h⟩ := bnd h
 refine R_q _ rfl (v_call (ok_ref2_outside h_y) (.cons (ov rfl) (.b rfl) <| .cons (ov rfl) (.b rfl) <| .cons (ov rfl) (.b rfl) <| .nil)) ?_
 refine R_nil ?_
 refine T_keep (kc 1 rfl <| kc 17 rfl <| kn) rfl ?_
 refine T_if h rfl (fun b17 h => ?_) (fun b17 h => ?_)
 ·
  refine T_keep (kn) rfl ?_
  refine T_seq (T_reg ?_)
  refine R_q _ rfl (v_assign (ov rfl)) ?_
  refine R_q _ rfl (v_assign (ov rfl)) ?_
  refine R_nil ?_
  obtain rfl := rt (v := (0, 9)) h
  refine T_ret (retq ?_ (.two (.tmp rfl (Dat.view (.b rfl))) (.tmp rfl (Dat.view (.b rfl)))))
  rfl
 ·
  refine T_skip ?_
  refine T_seq ?_
  refine T_keep (kc 1 rfl <| kn) rfl ?_
  refine T_seq (T_reg ?_)
  refine R_q _ rfl (v_fieldR (ov rfl) tF24_1) ?_
  refine R_q _ rfl (v_loadS_r (ov rfl) tS22 rfl) ?_
  refine R_q _ rfl (v_len (slv_sl (ov rfl) tZ_43) tL22 (len_map _ _)) ?_
  refine R_q _ rfl (v_gtr (ov rfl) (ov rfl)) ?_
  refine R_nil ?_
  refine T_keep (kc 1 rfl <| kc 21 rfl <| kn) rfl ?_
  refine T_if h rfl (fun b21 h => ?_) (fun b21 h => ?_)
  ·
   refine T_keep (kn) rfl ?_
   refine T_seq (T_reg ?_)
   refine R_q _ rfl (v_assign (ov rfl)) ?_
   refine R_q _ rfl (v_assign (ov rfl)) ?_
   refine R_nil ?_
   obtain rfl := rt (v := (0, 3)) h
   refine T_ret (retq ?_ (.two (.tmp rfl (Dat.view (.b rfl))) (.tmp rfl (Dat.view (.b rfl)))))
   rfl
  ·
   refine T_skip ?_
   refine T_keep (kc 1 rfl <| kn) rfl ?_
   refine T_seq (T_reg ?_)
   refine R_q _ rfl (v_assign (ov rfl)) ?_
   refine R_nil ?_
   refine T_joinG (fun j => (.inr j)) (t0 ⟨[(1, .rp [.int .i64 m.Version, .sl 43 (List.map R43 m.Params)] 0), (4, .int .i64 0)], []⟩) h (fun h => ?_) (fun j h => ?_)
   ·
    refine T_seq (T_reg ?_)
    refine R_q _ rfl (v_fieldR (ov rfl) tF24_1) ?_
    refine R_q _ rfl (v_loadS_r (ov rfl) tS22 rfl) ?_
    refine R_q _ rfl (v_len (slv_sl (ov rfl) tZ_43) tL22 (len_map _ _)) ?_
    refine R_q _ rfl (v_move (ov rfl)) ?_
    refine R_nil ?_
    refine T_block ?_
    obtain ⟨r1, hl1, ho1⟩ := bndL h
    refine T_loopG _ (t1 fun i => ⟨[(1, .rp [.int .i64 m.Version, .sl 43 (List.map R43 m.Params)] 0), (4, .int .i64 0), (23, .sl 43 (List.map R43 m.Params)), (24, .int .i64 (m.Params.length : Int)), (25, .int .i64 i)], []⟩) _ hl1 (Ent.sel [] (sd 1 rfl rfl <| sd 4 rfl rfl <| sd 23 rfl rfl <| sd 24 rfl rfl <| sd 25 rfl rfl <| sn) (.nil) rfl rfl) (fun n1 s1 h => ?_)
    obtain ⟨i, rfl⟩ : ∃ x, x = s1 := ⟨_, rfl⟩
    replace h := t1i h
    refine t1T ?_
    unfold ref2_Check_L1 at h
    refine T_seq (T_reg ?_)
    refine R_q _ rfl (v_lss (ov rfl) (ov rfl)) ?_
    refine R_nil ?_
    refine T_seq ?_
    refine T_if h rfl (fun b26 h => ?_) (fun b26 h => ?_)
    ·
     refine T_skip ?_
     refine T_joinG (fun j => (.inr j)) (t0 ⟨[(1, .rp [.int .i64 m.Version, .sl 43 (List.map R43 m.Params)] 0), (4, .int .i64 0), (23, .sl 43 (List.map R43 m.Params)), (24, .int .i64 (m.Params.length : Int)), (25, .int .i64 i)], []⟩) h (fun h => ?_) (fun j h => ?_)
     ·
      refine T_block ?_
      refine T_keep (kc 1 rfl <| kc 4 rfl <| kc 23 rfl <| kc 24 rfl <| kc 25 rfl <| kn) rfl ?_
      refine T_seq (T_reg ?_)
      refine R_q _ rfl (v_move (ov rfl)) ?_
      obtain ⟨x, h_x, h⟩ := bnd h
      refine R_q _ rfl (v_ixSG (ov rfl) (ov rfl) tL22 h_x) ?_
      refine R_q _ rfl (v_loadA_r (ov rfl) tA43 rfl rfl) ?_
      refine R_w _ _ rfl (w_alloc (row := [_, _, _, _, _, _, _, _]) 0 rfl tZ43 rfl tZ_43) ?_
      refine R_q _ rfl (v_assign (ov rfl)) ?_
      refine R_w _ _ rfl (w_store (ov rfl) (ov rfl) (cells_agg tA43 rfl) rfl rfl rfl (Nat.le_of_ble_eq_true rfl) (cell1_all rfl) rfl) ?_
      refine R_nil ?_
      refine T_seq ?_
      refine T_keep (kc 1 rfl <| kc 4 rfl <| kc 5 rfl <| kc 6 rfl <| kc 23 rfl <| kc 24 rfl <| kc 25 rfl <| kn) rfl ?_
      refine T_seq (T_reg ?_)
      refine R_q _ rfl (v_loadA (ov rfl) rfl rfl rfl tA43 rfl rfl) ?_
      obtain ⟨y2, h_y2, h⟩ := bnd h
      refine R_q _ rfl (v_call (ok_ref2_CheckParam h_y2) (.cons (ov rfl) (.aggB rfl) <| .nil)) ?_
      refine R_q _ rfl (v_assign (ov rfl)) ?_
      refine R_nil ?_
      refine T_keep (kc 1 rfl <| kc 4 rfl <| kc 5 rfl <| kc 6 rfl <| kc 7 rfl <| kc 23 rfl <| kc 24 rfl <| kc 25 rfl <| kn) rfl ?_
      refine T_seq (T_reg ?_)
      refine R_q _ rfl (v_move (ov rfl)) ?_
      refine R_q _ rfl (v_neq (ov rfl) (ov rfl)) ?_
      refine R_nil ?_
      refine T_keep (kc 1 rfl <| kc 4 rfl <| kc 5 rfl <| kc 6 rfl <| kc 7 rfl <| kc 23 rfl <| kc 24 rfl <| kc 25 rfl <| kc 33 rfl <| kn) rfl ?_
      refine T_if h rfl (fun b33 h => ?_) (fun b33 h => ?_)
      ·
       refine T_keep (kc 5 rfl <| kc 7 rfl <| kn) rfl ?_
       refine T_seq (T_reg ?_)
       refine R_q _ rfl (v_move (ov rfl)) ?_
       refine R_q _ rfl (v_move (ov rfl)) ?_
       refine R_q _ rfl (v_assign (ov rfl)) ?_
       refine R_q _ rfl (v_assign (ov rfl)) ?_
       refine R_nil ?_
       rw [lx h] at ho1
       replace h := ho1
       obtain rfl := rt (v := (i, y2)) h
       refine T_ret (retq ?_ (.two (.tmp rfl (Dat.view (.b rfl))) (.tmp rfl (Dat.view (.b rfl)))))
       rfl
      ·
       refine T_skip ?_
       refine T_keep (kc 1 rfl <| kc 4 rfl <| kc 5 rfl <| kc 6 rfl <| kc 23 rfl <| kc 24 rfl <| kc 25 rfl <| kn) rfl ?_
       refine T_seq (T_reg ?_)
       refine R_q _ rfl (v_fieldR (ov rfl) tF24_1) ?_
       refine R_q _ rfl (v_loadS_r (ov rfl) tS22 rfl) ?_
       refine R_q _ rfl (v_move (ov rfl)) ?_
       obtain ⟨l, h_l, h⟩ := bnd h
       refine R_q _ rfl (v_sliceG (ov rfl) tL22 on (oi (ov rfl)) h_l) ?_
       refine R_q _ rfl (v_len (slv_sl (ov rfl) tZ_43) tL22 (len_map _ _)) ?_
       refine R_q _ rfl (v_move (ov rfl)) ?_
       refine R_nil ?_
       refine T_block ?_
       obtain ⟨r2, hl2, ho2⟩ := bndL h
       refine T_loopG _ (t1 fun i2 => ⟨[(1, .rp [.int .i64 m.Version, .sl 43 (List.map R43 m.Params)] 0), (4, .int .i64 0), (5, .int .i64 i), (6, .ptr 0 1 0 0), (23, .sl 43 (List.map R43 m.Params)), (24, .int .i64 (m.Params.length : Int)), (25, .int .i64 i), (39, .sl 43 (List.map R43 l)), (40, .int .i64 (l.length : Int)), (41, .int .i64 i2)], [some ⟨43, [[.str x.Name, .int .i64 x.Kind, .sl 109 (List.map R109 x.Parts), .int .i64 x.First, .int .i64 x.Every, .int .i64 x.Times, .int .i64 x.Step, .sl 9 (List.map R9 x.Names)]]⟩]⟩) _ hl2 (Ent.sel [some 0] (sd 1 rfl rfl <| sd 4 rfl rfl <| sd 5 rfl rfl <| sr 6 rfl (.ptr _ _ _ rfl) <| sd 23 rfl rfl <| sd 24 rfl rfl <| sd 25 rfl rfl <| sd 39 rfl rfl <| sd 40 rfl rfl <| sd 41 rfl rfl <| sn) (.cons rfl (ro1 (by exact tZ_43.symm) (rld rfl)) <| .nil) rfl rfl) (fun n2 s2 h => ?_)
       obtain ⟨i2, rfl⟩ : ∃ x, x = s2 := ⟨_, rfl⟩
       replace h := t1i h
       refine t1T ?_
       unfold ref2_Check_L2 at h
       refine T_seq (T_reg ?_)
       refine R_q _ rfl (v_lss (ov rfl) (ov rfl)) ?_
       refine R_nil ?_
       refine T_seq ?_
       refine T_if h rfl (fun b42 h => ?_) (fun b42 h => ?_)
       ·
        refine T_skip ?_
        refine T_seq ?_
        refine T_block ?_
        refine T_keep (kc 1 rfl <| kc 4 rfl <| kc 5 rfl <| kc 6 rfl <| kc 23 rfl <| kc 24 rfl <| kc 25 rfl <| kc 39 rfl <| kc 40 rfl <| kc 41 rfl <| kn) rfl ?_
        refine T_seq (T_reg ?_)
        obtain ⟨x2, h_x2, h⟩ := bnd h
        refine R_q _ rfl (v_ixSG (ov rfl) (ov rfl) tL22 h_x2) ?_
        refine R_q _ rfl (v_loadA_r (ov rfl) tA43 rfl rfl) ?_
        refine R_w _ _ rfl (w_alloc (row := [_, _, _, _, _, _, _, _]) 1 rfl tZ43 rfl tZ_43) ?_
        refine R_w _ _ rfl (w_store (ov rfl) (ov rfl) (cells_agg tA43 rfl) rfl rfl rfl (Nat.le_of_ble_eq_true rfl) (cell1_all rfl) rfl) ?_
        refine R_nil ?_
        refine T_keep (kc 1 rfl <| kc 4 rfl <| kc 5 rfl <| kc 6 rfl <| kc 9 rfl <| kc 23 rfl <| kc 24 rfl <| kc 25 rfl <| kc 39 rfl <| kc 40 rfl <| kc 41 rfl <| kn) rfl ?_
        refine T_seq (T_reg ?_)
        refine R_q _ rfl (v_fieldP (ov rfl) rfl rfl tF43_0) ?_
        refine R_q _ rfl (v_loadS (ov rfl) rfl rfl rfl tS9 rfl) ?_
        refine R_q _ rfl (v_fieldP (ov rfl) rfl rfl tF43_0) ?_
        refine R_q _ rfl (v_loadS (ov rfl) rfl rfl rfl tS9 rfl) ?_
        refine R_q _ rfl (v_eqlStr (ov rfl) (ov rfl)) ?_
        refine R_nil ?_
        refine T_keep (kc 1 rfl <| kc 4 rfl <| kc 5 rfl <| kc 6 rfl <| kc 23 rfl <| kc 24 rfl <| kc 25 rfl <| kc 39 rfl <| kc 40 rfl <| kc 41 rfl <| kc 49 rfl <| kn) rfl ?_
        refine T_if h rfl (fun b49 h => ?_) (fun b49 h => ?_)
        ·
         refine T_keep (kc 5 rfl <| kn) rfl ?_
         refine T_seq (T_reg ?_)
         refine R_q _ rfl (v_move (ov rfl)) ?_
         refine R_q _ rfl (v_assign (ov rfl)) ?_
         refine R_q _ rfl (v_assign (ov rfl)) ?_
         refine R_nil ?_
         rw [lx h] at ho2
         replace h := ho2
         rw [lx h] at ho1
         replace h := ho1
         obtain rfl := rt (v := (i, 5)) h
         refine T_ret (retq ?_ (.two (.tmp rfl (Dat.view (.b rfl))) (.tmp rfl (Dat.view (.b rfl)))))
         rfl
        ·
         refine T_skip ?_
         refine T_keep (kc 1 rfl <| kc 4 rfl <| kc 5 rfl <| kc 6 rfl <| kc 23 rfl <| kc 24 rfl <| kc 25 rfl <| kc 39 rfl <| kc 40 rfl <| kc 41 rfl <| kn) rfl ?_
         refine T_reg ?_
         refine R_q _ rfl (v_add (ov rfl) (ov rfl) rfl) ?_
         refine R_q _ rfl (v_move (ov rfl)) ?_
         refine R_nil ?_
         exact ⟨(i64 (i2 + 1)), h, Ent.sel [some 0] (sd 1 rfl rfl <| sd 4 rfl rfl <| sd 5 rfl rfl <| sr 6 rfl (.ptr _ _ _ rfl) <| sd 23 rfl rfl <| sd 24 rfl rfl <| sd 25 rfl rfl <| sd 39 rfl rfl <| sd 40 rfl rfl <| sd 41 rfl rfl <| sn) (.cons rfl (ro1 (by exact tZ_43.symm) (rld rfl)) <| .nil) rfl rfl⟩
       ·
        refine T_exit ?_
        rw [lx h] at ho2
        replace h := ho2
        exact ⟨(), h, Ent.sel [] (sd 1 rfl rfl <| sd 4 rfl rfl <| sd 23 rfl rfl <| sd 24 rfl rfl <| sd 25 rfl rfl <| sn) (.nil) rfl rfl⟩
     ·
      replace h := elr h
      cases j
      replace h := t0i h
      refine t0T ?_
      refine T_reg ?_
      refine R_q _ rfl (v_add (ov rfl) (ov rfl) rfl) ?_
      refine R_q _ rfl (v_move (ov rfl)) ?_
      refine R_nil ?_
      exact ⟨(i64 (i + 1)), h, Ent.sel [] (sd 1 rfl rfl <| sd 4 rfl rfl <| sd 23 rfl rfl <| sd 24 rfl rfl <| sd 25 rfl rfl <| sn) (.nil) rfl rfl⟩
    ·
     refine T_exit ?_
     rw [lx h] at ho1
     replace h := ho1
     exact ⟨(), h, Ent.sel [] (sd 1 rfl rfl <| sd 4 rfl rfl <| sn) (.nil) rfl rfl⟩
   ·
    replace h := elr h
    cases j
    replace h := t0i h
    refine t0T ?_
    refine T_joinG (fun j => (.inr j)) (t0 ⟨[(1, .rp [.int .i64 m.Version, .sl 43 (List.map R43 m.Params)] 0)], []⟩) h (fun h => ?_) (fun j h => ?_)
    ·
     refine T_seq (T_reg ?_)
     refine R_q _ rfl (v_fieldR (ov rfl) tF24_1) ?_
     refine R_q _ rfl (v_loadS_r (ov rfl) tS22 rfl) ?_
     refine R_q _ rfl (v_len (slv_sl (ov rfl) tZ_43) tL22 (len_map _ _)) ?_
     refine R_q _ rfl (v_move (ov rfl)) ?_
     refine R_nil ?_
     refine T_block ?_
     obtain ⟨r3, hl3, ho3⟩ := bndL h
     refine T_loopG _ (t2 fun n i3 => ⟨[(1, .rp [.int .i64 m.Version, .sl 43 (List.map R43 m.Params)] 0), (4, .int .i64 n), (54, .sl 43 (List.map R43 m.Params)), (55, .int .i64 (m.Params.length : Int)), (56, .int .i64 i3)], []⟩) _ hl3 (Ent.sel [] (sd 1 rfl rfl <| sd 4 rfl rfl <| sd 54 rfl rfl <| sd 55 rfl rfl <| sd 56 rfl rfl <| sn) (.nil) rfl rfl) (fun n3 s3 h => ?_)
     obtain ⟨n, i3⟩ := s3
     replace h := t2i h
     refine t2T ?_
     unfold ref2_Check_L3 at h
     refine T_seq (T_reg ?_)
     refine R_q _ rfl (v_lss (ov rfl) (ov rfl)) ?_
     refine R_nil ?_
     refine T_seq ?_
     refine T_if h rfl (fun b57 h => ?_) (fun b57 h => ?_)
     ·
      refine T_skip ?_
      refine T_seq ?_
      refine T_block ?_
      refine T_keep (kc 1 rfl <| kc 4 rfl <| kc 54 rfl <| kc 55 rfl <| kc 56 rfl <| kn) rfl ?_
      refine T_seq (T_reg ?_)
      refine R_q _ rfl (v_move (ov rfl)) ?_
      obtain ⟨x3, h_x3, h⟩ := bnd h
      refine R_q _ rfl (v_ixSG (ov rfl) (ov rfl) tL22 h_x3) ?_
      refine R_q _ rfl (v_loadA_r (ov rfl) tA43 rfl rfl) ?_
      refine R_w _ _ rfl (w_alloc (row := [_, _, _, _, _, _, _, _]) 0 rfl tZ43 rfl tZ_43) ?_
      refine R_q _ rfl (v_assign (ov rfl)) ?_
      refine R_w _ _ rfl (w_store (ov rfl) (ov rfl) (cells_agg tA43 rfl) rfl rfl rfl (Nat.le_of_ble_eq_true rfl) (cell1_all rfl) rfl) ?_
      refine R_nil ?_
      refine T_keep (kc 1 rfl <| kc 4 rfl <| kc 10 rfl <| kc 11 rfl <| kc 54 rfl <| kc 55 rfl <| kc 56 rfl <| kn) rfl ?_
      refine T_seq (T_reg ?_)
      refine R_q _ rfl (v_move (ov rfl)) ?_
      refine R_q _ rfl (v_loadA (ov rfl) rfl rfl rfl tA43 rfl rfl) ?_
      refine R_q _ rfl (v_move (ov rfl)) ?_
      obtain ⟨y3, h_y3, h⟩ := bnd h
      refine R_q _ rfl (v_call (ok_ref2_cells h_y3) (.cons (ov rfl) (.aggB rfl) <| .cons (ov rfl) (.b rfl) <| .nil)) ?_
      refine R_q _ rfl (v_len (slv_sl (ov rfl) tZ_54) tL62 (len_map _ _)) ?_
      refine R_q _ rfl (v_add (ov rfl) (ov rfl) rfl) ?_
      refine R_q _ rfl (v_assign (ov rfl)) ?_
      refine R_nil ?_
      refine T_keep (kc 1 rfl <| kc 4 rfl <| kc 10 rfl <| kc 54 rfl <| kc 55 rfl <| kc 56 rfl <| kn) rfl ?_
      refine T_seq (T_reg ?_)
      refine R_q _ rfl (v_move (ov rfl)) ?_
      refine R_q _ rfl (v_gtr (ov rfl) (ov rfl)) ?_
      refine R_nil ?_
      refine T_keep (kc 1 rfl <| kc 4 rfl <| kc 10 rfl <| kc 54 rfl <| kc 55 rfl <| kc 56 rfl <| kc 68 rfl <| kn) rfl ?_
      refine T_if h rfl (fun b68 h => ?_) (fun b68 h => ?_)
      ·
       refine T_keep (kc 10 rfl <| kn) rfl ?_
       refine T_seq (T_reg ?_)
       refine R_q _ rfl (v_move (ov rfl)) ?_
       refine R_q _ rfl (v_assign (ov rfl)) ?_
       refine R_q _ rfl (v_assign (ov rfl)) ?_
       refine R_nil ?_
       rw [lx h] at ho3
       replace h := ho3
       obtain rfl := rt (v := (i3, 3)) h
       refine T_ret (retq ?_ (.two (.tmp rfl (Dat.view (.b rfl))) (.tmp rfl (Dat.view (.b rfl)))))
       rfl
      ·
       refine T_skip ?_
       refine T_keep (kc 1 rfl <| kc 4 rfl <| kc 54 rfl <| kc 55 rfl <| kc 56 rfl <| kn) rfl ?_
       refine T_reg ?_
       refine R_q _ rfl (v_add (ov rfl) (ov rfl) rfl) ?_
       refine R_q _ rfl (v_move (ov rfl)) ?_
       refine R_nil ?_
       exact ⟨((i64 (n + (y3.length : Int))), (i64 (i3 + 1))), h, Ent.sel [] (sd 1 rfl rfl <| sd 4 rfl rfl <| sd 54 rfl rfl <| sd 55 rfl rfl <| sd 56 rfl rfl <| sn) (.nil) rfl rfl⟩
     ·
      refine T_exit ?_
      rw [lx h] at ho3
      replace h := ho3
      exact ⟨(), h, Ent.sel [] (sd 1 rfl rfl <| sn) (.nil) rfl rfl⟩
    ·
     replace h := elr h
     cases j
     replace h := t0i h
     refine t0T ?_
     refine T_seq (T_reg ?_)
     refine R_w _ _ rfl (w_makeMap 0 rfl tMp117) ?_
     refine R_q _ rfl (v_assign (ov rfl)) ?_
     refine R_nil ?_
     refine T_joinG (fun j => (.inr j)) (t0 ⟨[], []⟩) h (fun h => ?_) (fun j h => ?_)
     ·
      refine T_keep (kc 1 rfl <| kc 12 rfl <| kn) rfl ?_
      refine T_seq (T_reg ?_)
      refine R_q _ rfl (v_fieldR (ov rfl) tF24_1) ?_
      refine R_q _ rfl (v_loadS_r (ov rfl) tS22 rfl) ?_
      refine R_q _ rfl (v_len (slv_sl (ov rfl) tZ_43) tL22 (len_map _ _)) ?_
      refine R_q _ rfl (v_move (ov rfl)) ?_
      refine R_nil ?_
      refine T_block ?_
      obtain ⟨r4, hl4, ho4⟩ := bndL h
      refine T_loopG _ (t2 fun t i4 => ⟨[(12, .mref 0 1), (73, .sl 43 (List.map R43 m.Params)), (74, .int .i64 (m.Params.length : Int)), (75, .int .i64 i4)], [some ⟨117, [[.mcon (List.map (mrow FK167 FV4) t)]]⟩]⟩) _ hl4 (Ent.sel [some 0] (sr 12 rfl (.mref _ rfl) <| sd 73 rfl rfl <| sd 74 rfl rfl <| sd 75 rfl rfl <| sn) (.cons rfl (roMap (fk := FK167) (fv := FV4) (m := ([] : List ((Vector Int 3) × Bool))) tZ_117 (fun _ => rAgg (rld (arD fun _ => rfl))) (fun _ => .ren (.dat rfl))) <| .nil) rfl rfl) (fun n4 s4 h => ?_)
      obtain ⟨t, i4⟩ := s4
      replace h := t2i h
      refine t2T ?_
      unfold ref2_Check_L4 at h
      refine T_seq (T_reg ?_)
      refine R_q _ rfl (v_lss (ov rfl) (ov rfl)) ?_
      refine R_nil ?_
      refine T_seq ?_
      refine T_if h rfl (fun b76 h => ?_) (fun b76 h => ?_)
      ·
       refine T_skip ?_
       refine T_seq ?_
       refine T_block ?_
       refine T_keep (kc 12 rfl <| kc 73 rfl <| kc 74 rfl <| kc 75 rfl <| kn) rfl ?_
       refine T_seq (T_reg ?_)
       refine R_q _ rfl (v_move (ov rfl)) ?_
       obtain ⟨x4, h_x4, h⟩ := bnd h
       refine R_q _ rfl (v_ixSG (ov rfl) (ov rfl) tL22 h_x4) ?_
       refine R_q _ rfl (v_loadA_r (ov rfl) tA43 rfl rfl) ?_
       refine R_w _ _ rfl (w_alloc (row := [_, _, _, _, _, _, _, _]) 1 rfl tZ43 rfl tZ_43) ?_
       refine R_q _ rfl (v_assign (ov rfl)) ?_
       refine R_w _ _ rfl (w_store (ov rfl) (ov rfl) (cells_agg tA43 rfl) rfl rfl rfl (Nat.le_of_ble_eq_true rfl) (cell1_all rfl) rfl) ?_
       refine R_nil ?_
       refine T_keep (kc 12 rfl <| kc 13 rfl <| kc 14 rfl <| kc 73 rfl <| kc 74 rfl <| kc 75 rfl <| kn) rfl ?_
       refine T_seq (T_reg ?_)
       refine R_q _ rfl (v_move (ov rfl)) ?_
       refine R_q _ rfl (v_loadA (ov rfl) rfl rfl rfl tA43 rfl rfl) ?_
       refine R_q _ rfl (v_move (ov rfl)) ?_
       obtain ⟨y4, h_y4, h⟩ := bnd h
       refine R_q _ rfl (v_call (ok_ref2_cells h_y4) (.cons (ov rfl) (.aggB rfl) <| .cons (ov rfl) (.b rfl) <| .nil)) ?_
       obtain ⟨y5, h_y5, h⟩ := bnd h
       refine R_w _ _ rfl (w_callG [0] (ok_ref2_taken_takeAll h_y5) (.cons (ov rfl) (.mref _ rfl) <| .cons (ov rfl) (.dat rfl) <| .nil) (.cons rfl (roMap (fk := FK167) (fv := FV4) (m := t) tZ_117 (fun _ => rAgg (rld (arD fun _ => rfl))) (fun _ => .ren (.dat rfl))) <| .nil) rfl (.lent 0 (.inl rfl) rfl (roMap (fk := FK167) (fv := FV4) (m := y5.2) tZ_117 (fun _ => rAgg (rld (arD fun _ => rfl))) (fun _ => .ren (.dat rfl))) <| .keep rfl rfl <| .nil) rfl rfl (.dat rfl)) ?_
       refine R_q _ rfl (v_not (ov rfl)) ?_
       refine R_nil ?_
       refine T_keep (kc 12 rfl <| kc 13 rfl <| kc 73 rfl <| kc 74 rfl <| kc 75 rfl <| kc 85 rfl <| kn) rfl ?_
       refine T_if h rfl (fun b85 h => ?_) (fun b85 h => ?_)
       ·
        refine T_keep (kc 13 rfl <| kn) rfl ?_
        refine T_seq (T_reg ?_)
        refine R_q _ rfl (v_move (ov rfl)) ?_
        refine R_q _ rfl (v_assign (ov rfl)) ?_
        refine R_q _ rfl (v_assign (ov rfl)) ?_
        refine R_nil ?_
        rw [lx h] at ho4
        replace h := ho4
        obtain rfl := rt (v := (i4, 5)) h
        refine T_ret (retq ?_ (.two (.tmp rfl (Dat.view (.b rfl))) (.tmp rfl (Dat.view (.b rfl)))))
        rfl
       ·
        refine T_skip ?_
        refine T_keep (kc 12 rfl <| kc 73 rfl <| kc 74 rfl <| kc 75 rfl <| kn) rfl ?_
        refine T_reg ?_
        refine R_q _ rfl (v_add (ov rfl) (ov rfl) rfl) ?_
        refine R_q _ rfl (v_move (ov rfl)) ?_
        refine R_nil ?_
        exact ⟨(y5.2, (i64 (i4 + 1))), h, Ent.sel [some 0] (sr 12 rfl (.mref _ rfl) <| sd 73 rfl rfl <| sd 74 rfl rfl <| sd 75 rfl rfl <| sn) (.cons rfl (roMap (fk := FK167) (fv := FV4) (m := y5.2) tZ_117 (fun _ => rAgg (rld (arD fun _ => rfl))) (fun _ => .ren (.dat rfl))) <| .nil) rfl rfl⟩
      ·
       refine T_exit ?_
       rw [lx h] at ho4
       replace h := ho4
       exact ⟨(), h, Ent.sel [] (sn) (.nil) rfl rfl⟩
     ·
      replace h := elr h
      cases j
      replace h := t0i h
      refine t0T ?_
      refine T_seq (T_reg ?_)
      refine R_q _ rfl (v_assign (ov rfl)) ?_
      refine R_q _ rfl (v_assign (ov rfl)) ?_
      refine R_nil ?_
      obtain rfl := rt (v := (0, 0)) h
      refine T_ret (retq ?_ (.two (.tmp rfl (Dat.view (.b rfl))) (.tmp rfl (Dat.view (.b rfl)))))
      rfl

theorem ok_ref2_find {m : api_Map} {name : Str} {r : api_Param × Bool} (h : ref2_find m name = some r) :
  CSpec Try.prog gl0 90 [.agg [.int .i64 m.Version, .sl 43 (List.map R43 m.Params)], .str name] (.tuple [.agg [.str r.1.Name, .int .i64 r.1.Kind, .sl 109 (List.map R109 r.1.Parts), .int .i64 r.1.First, .int .i64 r.1.Every, .int .i64 r.1.Times, .int .i64 r.1.Step, .sl 9 (List.map R9 r.1.Names)], .bool r.2]) := by
 unfold ref2_find at h
 replace h := bnd0 h
 refine spec_of (by kernel_rfl) Try.func90 rfl rfl ?_
 intro w0 A
 refine T_seq (T_reg ?_)
 refine R_q _ rfl (v_boxD (cva (ov rfl)) rfl tZ_24 rfl) ?_
 refine R_w _ _ rfl (w_alloc (row := [_, _, _, _, _, _, _, _]) 0 rfl tZ43 rfl tZ_43) ?_
 refine R_q _ rfl (v_assign (ov rfl)) ?_
 refine R_nil ?_
 refine T_joinG (fun j => (.inr j)) (t0 ⟨[(4, .ptr 0 1 0 0)], [some ⟨43, [[.str [], .int .i64 0, .nils, .int .i64 0, .int .i64 0, .int .i64 0, .int .i64 0, .nils]]⟩]⟩) h (fun h => ?_) (fun j h => ?_)
 ·
  refine T_keep (kc 1 rfl <| kc 2 rfl <| kc 4 rfl <| kn) rfl ?_
  refine T_seq (T_reg ?_)
  refine R_q _ rfl (v_fieldR (ov rfl) tF24_1) ?_
  refine R_q _ rfl (v_loadS_r (ov rfl) tS22 rfl) ?_
  refine R_q _ rfl (v_len (slv_sl (ov rfl) tZ_43) tL22 (len_map _ _)) ?_
  refine R_q _ rfl (v_move (ov rfl)) ?_
  refine R_nil ?_
  refine T_block ?_
  obtain ⟨r1, hl1, ho1⟩ := bndL h
  refine T_loopG _ (t1 fun i => ⟨[(1, .str name), (4, .ptr 0 1 0 0), (9, .sl 43 (List.map R43 m.Params)), (10, .int .i64 (m.Params.length : Int)), (11, .int .i64 i)], [some ⟨43, [[.str [], .int .i64 0, .nils, .int .i64 0, .int .i64 0, .int .i64 0, .int .i64 0, .nils]]⟩]⟩) _ hl1 (Ent.sel [some 0] (sd 1 rfl rfl <| sr 4 rfl (.ptr _ _ _ rfl) <| sd 9 rfl rfl <| sd 10 rfl rfl <| sd 11 rfl rfl <| sn) (.cons rfl (ro1 (by exact tZ_43.symm) (rld rfl)) <| .nil) rfl rfl) (fun n1 s1 h => ?_)
  obtain ⟨i, rfl⟩ : ∃ x, x = s1 := ⟨_, rfl⟩
  replace h := t1i h
  refine t1T ?_
  unfold ref2_find_L1 at h
  refine T_seq (T_reg ?_)
  refine R_q _ rfl (v_lss (ov rfl) (ov rfl)) ?_
  refine R_nil ?_
  refine T_seq ?_
  refine T_if h rfl (fun b12 h => ?_) (fun b12 h => ?_)
  ·
   refine T_skip ?_
   refine T_seq ?_
   refine T_block ?_
   refine T_keep (kc 1 rfl <| kc 4 rfl <| kc 9 rfl <| kc 10 rfl <| kc 11 rfl <| kn) rfl ?_
   refine T_seq (T_reg ?_)
   obtain ⟨x, h_x, h⟩ := bnd h
   refine R_q _ rfl (v_ixSG (ov rfl) (ov rfl) tL22 h_x) ?_
   refine R_q _ rfl (v_loadA_r (ov rfl) tA43 rfl rfl) ?_
   refine R_w _ _ rfl (w_alloc (row := [_, _, _, _, _, _, _, _]) 1 rfl tZ43 rfl tZ_43) ?_
   refine R_w _ _ rfl (w_store (ov rfl) (ov rfl) (cells_agg tA43 rfl) rfl rfl rfl (Nat.le_of_ble_eq_true rfl) (cell1_all rfl) rfl) ?_
   refine R_nil ?_
   refine T_keep (kc 1 rfl <| kc 4 rfl <| kc 7 rfl <| kc 9 rfl <| kc 10 rfl <| kc 11 rfl <| kn) rfl ?_
   refine T_seq (T_reg ?_)
   refine R_q _ rfl (v_fieldP (ov rfl) rfl rfl tF43_0) ?_
   refine R_q _ rfl (v_loadS (ov rfl) rfl rfl rfl tS9 rfl) ?_
   refine R_q _ rfl (v_move (ov rfl)) ?_
   refine R_q _ rfl (v_eqlStr (ov rfl) (ov rfl)) ?_
   refine R_nil ?_
   refine T_keep (kc 1 rfl <| kc 4 rfl <| kc 7 rfl <| kc 9 rfl <| kc 10 rfl <| kc 11 rfl <| kc 18 rfl <| kn) rfl ?_
   refine T_if h rfl (fun b18 h => ?_) (fun b18 h => ?_)
   ·
    refine T_keep (kc 4 rfl <| kc 7 rfl <| kn) rfl ?_
    refine T_seq (T_reg ?_)
    refine R_q _ rfl (v_loadA (ov rfl) rfl rfl rfl tA43 rfl rfl) ?_
    refine R_w _ _ rfl (w_store (ov rfl) (ov rfl) (cells_agg tA43 rfl) rfl rfl rfl (Nat.le_of_ble_eq_true rfl) (cell1_all rfl) rfl) ?_
    refine R_q _ rfl (v_assign (ov rfl)) ?_
    refine R_nil ?_
    rw [lx h] at ho1
    replace h := ho1
    obtain rfl := rt (v := (x, true)) h
    refine T_ret (retq ?_ (.two (.agg rfl rfl rfl rfl tA43 rfl rfl (pwB rfl)) (.tmp rfl (Dat.view (.b rfl)))))
    rfl
   ·
    refine T_skip ?_
    refine T_keep (kc 1 rfl <| kc 4 rfl <| kc 9 rfl <| kc 10 rfl <| kc 11 rfl <| kn) rfl ?_
    refine T_reg ?_
    refine R_q _ rfl (v_add (ov rfl) (ov rfl) rfl) ?_
    refine R_q _ rfl (v_move (ov rfl)) ?_
    refine R_nil ?_
    exact ⟨(i64 (i + 1)), h, Ent.sel [some 0] (sd 1 rfl rfl <| sr 4 rfl (.ptr _ _ _ rfl) <| sd 9 rfl rfl <| sd 10 rfl rfl <| sd 11 rfl rfl <| sn) (.cons rfl (ro1 (by exact tZ_43.symm) (rld rfl)) <| .nil) rfl rfl⟩
  ·
   refine T_exit ?_
   rw [lx h] at ho1
   replace h := ho1
   exact ⟨(), h, Ent.sel [some 0] (sr 4 rfl (.ptr _ _ _ rfl) <| sn) (.cons rfl (ro1 (by exact tZ_43.symm) (rld rfl)) <| .nil) rfl rfl⟩
 ·
  replace h := elr h
  cases j
  replace h := t0i h
  refine t0T ?_
  refine T_seq (T_reg ?_)
  refine R_q _ rfl (v_build (ys := [_, _, _, _, _, _, _, _]) tPL43 tHA43 tZ43 (.nil) rfl) ?_
  refine R_w _ _ rfl (w_store (ov rfl) (ov rfl) (cells_agg tA43 rfl) rfl rfl rfl (Nat.le_of_ble_eq_true rfl) (cell1_all rfl) rfl) ?_
  refine R_q _ rfl (v_assign (ov rfl)) ?_
  refine R_nil ?_
  obtain rfl := rt (v := ((api_Param.mk [] 0 [] 0 0 0 0 []), false)) h
  refine T_ret (retq ?_ (.two (.agg rfl rfl rfl rfl tA43 rfl rfl (.cons (Dat.view (.b rfl)) <| .cons (Dat.view (.b rfl)) <| .cons (View.nils 109) <| .cons (Dat.view (.b rfl)) <| .cons (Dat.view (.b rfl)) <| .cons (Dat.view (.b rfl)) <| .cons (Dat.view (.b rfl)) <| .cons (View.nils 9) <| .nil)) (.tmp rfl (Dat.view (.b rfl)))))
  rfl

theorem ok_ref2_Without {m : api_Map} {names : List Str} {r : api_Map × Int} (h : ref2_Without m names = some r) :
  CSpec Try.prog gl0 52 [.agg [.int .i64 m.Version, .sl 43 (List.map R43 m.Params)], .sl 9 (List.map R9 names)] (.tuple [.agg [.int .i64 r.1.Version, .sl 43 (List.map R43 r.1.Params)], .int .i64 r.2]) := by
 unfold ref2_Without at h
 replace h := bnd0 h
 refine spec_of (by kernel_rfl) Try.func52 rfl rfl ?_
 intro w0 A
 refine T_seq (T_reg ?_)
 refine R_q _ rfl (v_boxD (cva (ov rfl)) rfl tZ_24 rfl) ?_
 refine R_w _ _ rfl (w_alloc (row := [_, _]) 0 rfl tZ24 rfl tZ_24) ?_
 refine R_q _ rfl (v_assign (ov rfl)) ?_
 refine R_nil ?_
 refine T_seq ?_
 refine T_keep (kc 1 rfl <| kc 2 rfl <| kc 4 rfl <| kn) rfl ?_
 refine T_seq (T_reg ?_)
 refine R_q _ rfl (v_loadA_r (ov rfl) tA24 rfl rfl) ?_
 obtain ⟨y, h_y, h⟩ := bnd h
 refine R_q _ rfl (v_call (ok_ref2_Check h_y) (.cons (ov rfl) (.aggB rfl) <| .nil)) ?_
 refine R_q _ rfl (v_move (ov rfl)) ?_
 refine R_q _ rfl (v_extract (ov rfl) rfl) ?_
 refine R_q _ rfl (v_extract (ov rfl) rfl) ?_
 refine R_q _ rfl (v_assign (ov rfl)) ?_
 refine R_q _ rfl (v_assign (ov rfl)) ?_
 refine R_nil ?_
 refine T_keep (kc 1 rfl <| kc 2 rfl <| kc 4 rfl <| kc 7 rfl <| kn) rfl ?_
 refine T_seq (T_reg ?_)
 refine R_q _ rfl (v_move (ov rfl)) ?_
 refine R_q _ rfl (v_neq (ov rfl) (ov rfl)) ?_
 refine R_nil ?_
 refine T_keep (kc 1 rfl <| kc 2 rfl <| kc 4 rfl <| kc 7 rfl <| kc 24 rfl <| kn) rfl ?_
 refine T_if h rfl (fun b24 h => ?_) (fun b24 h => ?_)
 ·
  refine T_keep (kc 4 rfl <| kc 7 rfl <| kn) rfl ?_
  refine T_seq (T_reg ?_)
  refine R_q _ rfl (v_build (ys := [_, _]) tPL24 tHA24 tZ24 (.nil) rfl) ?_
  refine R_q _ rfl (v_move (ov rfl)) ?_
  refine R_w _ _ rfl (w_store (ov rfl) (ov rfl) (cells_agg tA24 rfl) rfl rfl rfl (Nat.le_of_ble_eq_true rfl) (cell1_all rfl) rfl) ?_
  refine R_q _ rfl (v_assign (ov rfl)) ?_
  refine R_nil ?_
  obtain rfl := rt (v := ((api_Map.mk 0 []), y.2)) h
  refine T_ret (retq ?_ (.two (.agg rfl rfl rfl rfl tA24 rfl rfl (.cons (Dat.view (.b rfl)) <| .cons (View.nils 43) <| .nil)) (.tmp rfl (Dat.view (.b rfl)))))
  rfl
 ·
  refine T_skip ?_
  refine T_joinG (fun j => (.inr j)) (t0 ⟨[(1, .sl 9 (List.map R9 names)), (2, .rp [.int .i64 m.Version, .sl 43 (List.map R43 m.Params)] 0), (4, .ptr 0 1 0 0)], [some ⟨24, [[.int .i64 0, .nils]]⟩]⟩) h (fun h => ?_) (fun j h => ?_)
  ·
   refine T_keep (kc 1 rfl <| kc 2 rfl <| kc 4 rfl <| kn) rfl ?_
   refine T_seq (T_reg ?_)
   refine R_q _ rfl (v_move (ov rfl)) ?_
   refine R_q _ rfl (v_len (slv_sl (ov rfl) tZ_9) tL41 (len_map _ _)) ?_
   refine R_q _ rfl (v_move (ov rfl)) ?_
   refine R_nil ?_
   refine T_block ?_
   obtain ⟨r1, hl1, ho1⟩ := bndL h
   refine T_loopG _ (t1 fun i => ⟨[(1, .sl 9 (List.map R9 names)), (2, .rp [.int .i64 m.Version, .sl 43 (List.map R43 m.Params)] 0), (4, .ptr 0 1 0 0), (27, .sl 9 (List.map R9 names)), (28, .int .i64 (names.length : Int)), (29, .int .i64 i)], [some ⟨24, [[.int .i64 0, .nils]]⟩]⟩) _ hl1 (Ent.sel [some 0] (sd 1 rfl rfl <| sd 2 rfl rfl <| sr 4 rfl (.ptr _ _ _ rfl) <| sd 27 rfl rfl <| sd 28 rfl rfl <| sd 29 rfl rfl <| sn) (.cons rfl (ro1 (by exact tZ_24.symm) (rld rfl)) <| .nil) rfl rfl) (fun n1 s1 h => ?_)
   obtain ⟨i, rfl⟩ : ∃ x, x = s1 := ⟨_, rfl⟩
   replace h := t1i h
   refine t1T ?_
   unfold ref2_Without_L1 at h
   refine T_seq (T_reg ?_)
   refine R_q _ rfl (v_lss (ov rfl) (ov rfl)) ?_
   refine R_nil ?_
   refine T_seq ?_
   refine T_if h rfl (fun b30 h => ?_) (fun b30 h => ?_)
   ·
    refine T_skip ?_
    refine T_seq ?_
    refine T_block ?_
    refine T_keep (kc 1 rfl <| kc 2 rfl <| kc 4 rfl <| kc 27 rfl <| kc 28 rfl <| kc 29 rfl <| kn) rfl ?_
    refine T_seq (T_reg ?_)
    obtain ⟨x, h_x, h⟩ := bnd h
    refine R_q _ rfl (v_ixSG (ov rfl) (ov rfl) tL41 h_x) ?_
    refine R_q _ rfl (v_loadS_r (ov rfl) tS9 rfl) ?_
    refine R_q _ rfl (v_assign (ov rfl)) ?_
    refine R_nil ?_
    refine T_keep (kc 1 rfl <| kc 2 rfl <| kc 4 rfl <| kc 9 rfl <| kc 27 rfl <| kc 28 rfl <| kc 29 rfl <| kn) rfl ?_
    refine T_seq (T_reg ?_)
    refine R_q _ rfl (v_loadA_r (ov rfl) tA24 rfl rfl) ?_
    refine R_q _ rfl (v_move (ov rfl)) ?_
    obtain ⟨y2, h_y2, h⟩ := bnd h
    refine R_q _ rfl (v_call (ok_ref2_find h_y2) (.cons (ov rfl) (.aggB rfl) <| .cons (ov rfl) (.b rfl) <| .nil)) ?_
    refine R_q _ rfl (v_move (ov rfl)) ?_
    refine R_q _ rfl (v_extract (ov rfl) rfl) ?_
    refine R_q _ rfl (v_extract (ov rfl) rfl) ?_
    refine R_w _ _ rfl (w_alloc (row := [_, _, _, _, _, _, _, _]) 1 rfl tZ43 rfl tZ_43) ?_
    refine R_w _ _ rfl (w_store (ov rfl) (ov rfl) (cells_agg tA43 rfl) rfl rfl rfl (Nat.le_of_ble_eq_true rfl) (cell1_all rfl) rfl) ?_
    refine R_q _ rfl (v_assign (ov rfl)) ?_
    refine R_nil ?_
    refine T_keep (kc 1 rfl <| kc 2 rfl <| kc 4 rfl <| kc 11 rfl <| kc 27 rfl <| kc 28 rfl <| kc 29 rfl <| kn) rfl ?_
    refine T_seq (T_reg ?_)
    refine R_q _ rfl (v_move (ov rfl)) ?_
    refine R_q _ rfl (v_not (ov rfl)) ?_
    refine R_nil ?_
    refine T_keep (kc 1 rfl <| kc 2 rfl <| kc 4 rfl <| kc 27 rfl <| kc 28 rfl <| kc 29 rfl <| kc 40 rfl <| kn) rfl ?_
    refine T_if h rfl (fun b40 h => ?_) (fun b40 h => ?_)
    ·
     refine T_keep (kc 4 rfl <| kn) rfl ?_
     refine T_seq (T_reg ?_)
     refine R_q _ rfl (v_build (ys := [_, _]) tPL24 tHA24 tZ24 (.nil) rfl) ?_
     refine R_w _ _ rfl (w_store (ov rfl) (ov rfl) (cells_agg tA24 rfl) rfl rfl rfl (Nat.le_of_ble_eq_true rfl) (cell1_all rfl) rfl) ?_
     refine R_q _ rfl (v_assign (ov rfl)) ?_
     refine R_nil ?_
     rw [lx h] at ho1
     replace h := ho1
     obtain rfl := rt (v := ((api_Map.mk 0 []), 4)) h
     refine T_ret (retq ?_ (.two (.agg rfl rfl rfl rfl tA24 rfl rfl (.cons (Dat.view (.b rfl)) <| .cons (View.nils 43) <| .nil)) (.tmp rfl (Dat.view (.b rfl)))))
     rfl
    ·
     refine T_skip ?_
     refine T_keep (kc 1 rfl <| kc 2 rfl <| kc 4 rfl <| kc 27 rfl <| kc 28 rfl <| kc 29 rfl <| kn) rfl ?_
     refine T_reg ?_
     refine R_q _ rfl (v_add (ov rfl) (ov rfl) rfl) ?_
     refine R_q _ rfl (v_move (ov rfl)) ?_
     refine R_nil ?_
     exact ⟨(i64 (i + 1)), h, Ent.sel [some 0] (sd 1 rfl rfl <| sd 2 rfl rfl <| sr 4 rfl (.ptr _ _ _ rfl) <| sd 27 rfl rfl <| sd 28 rfl rfl <| sd 29 rfl rfl <| sn) (.cons rfl (ro1 (by exact tZ_24.symm) (rld rfl)) <| .nil) rfl rfl⟩
   ·
    refine T_exit ?_
    rw [lx h] at ho1
    replace h := ho1
    exact ⟨(), h, Ent.sel [some 0] (sd 1 rfl rfl <| sd 2 rfl rfl <| sr 4 rfl (.ptr _ _ _ rfl) <| sn) (.cons rfl (ro1 (by exact tZ_24.symm) (rld rfl)) <| .nil) rfl rfl⟩
  ·
   replace h := elr h
   cases j
   replace h := t0i h
   refine t0T ?_
   refine T_seq (T_reg ?_)
   refine R_q _ rfl (v_fieldR (ov rfl) tF24_0) ?_
   refine R_q _ rfl (v_loadS_r (ov rfl) tS3 rfl) ?_
   refine R_q _ rfl (v_build (ys := [_, _]) tPL24 tHA24 tZ24 (.cons (cvs (ov rfl) (cell1_b rfl)) <| .nil) rfl) ?_
   refine R_w _ _ rfl (w_alloc (row := [_, _]) 1 rfl tZ24 rfl tZ_24) ?_
   refine R_w _ _ rfl (w_store (ov rfl) (ov rfl) (cells_agg tA24 rfl) rfl rfl rfl (Nat.le_of_ble_eq_true rfl) (cell1_all rfl) rfl) ?_
   refine R_nil ?_
   refine T_joinG id (t1 fun Params => ⟨[(4, .ptr 0 1 0 0), (12, .ptr 1 1 0 0)], [some ⟨24, [[.int .i64 0, .nils]]⟩, some ⟨24, [[.int .i64 m.Version, .own 2 Params.length]]⟩, some ⟨43, List.map R43 Params⟩]⟩) h (fun h => ?_) (fun j h => ?_)
   ·
    refine T_keep (kc 1 rfl <| kc 2 rfl <| kc 4 rfl <| kc 12 rfl <| kn) rfl ?_
    refine T_seq (T_reg ?_)
    refine R_q _ rfl (v_fieldR (ov rfl) tF24_1) ?_
    refine R_q _ rfl (v_loadS_r (ov rfl) tS22 rfl) ?_
    refine R_q _ rfl (v_len (slv_sl (ov rfl) tZ_43) tL22 (len_map _ _)) ?_
    refine R_q _ rfl (v_move (ov rfl)) ?_
    refine R_nil ?_
    refine T_block ?_
    obtain ⟨r2, hl2, ho2⟩ := bndL h
    refine T_loopG _ (t2 fun Params2 i2 => ⟨[(1, .sl 9 (List.map R9 names)), (4, .ptr 0 1 0 0), (12, .ptr 1 1 0 0), (47, .sl 43 (List.map R43 m.Params)), (48, .int .i64 (m.Params.length : Int)), (49, .int .i64 i2)], [some ⟨24, [[.int .i64 0, .nils]]⟩, some ⟨24, [[.int .i64 m.Version, .own 2 Params2.length]]⟩, some ⟨43, List.map R43 Params2⟩]⟩) _ hl2 (Ent.sel [some 0, some 1, none] (sd 1 rfl rfl <| sr 4 rfl (.ptr _ _ _ rfl) <| sr 12 rfl (.ptr _ _ _ rfl) <| sd 47 rfl rfl <| sd 48 rfl rfl <| sd 49 rfl rfl <| sn) (.cons rfl (ro1 (by exact tZ_24.symm) (rld rfl)) <| .cons rfl (ro1 (by exact tZ_24.symm) (rlc (.dat rfl) <| rlc (.row rfl) <| rln)) <| .row 43 <| .nil) rfl rfl) (fun n2 s2 h => ?_)
    obtain ⟨Params2, i2⟩ := s2
    replace h := t2i h
    refine t2T ?_
    unfold ref2_Without_L2 at h
    refine T_seq (T_reg ?_)
    refine R_q _ rfl (v_lss (ov rfl) (ov rfl)) ?_
    refine R_nil ?_
    refine T_seq ?_
    refine T_if h rfl (fun b50 h => ?_) (fun b50 h => ?_)
    ·
     refine T_skip ?_
     refine T_seq ?_
     refine T_block ?_
     refine T_keep (kc 1 rfl <| kc 4 rfl <| kc 12 rfl <| kc 47 rfl <| kc 48 rfl <| kc 49 rfl <| kn) rfl ?_
     refine T_seq (T_reg ?_)
     obtain ⟨x2, h_x2, h⟩ := bnd h
     refine R_q _ rfl (v_ixSG (ov rfl) (ov rfl) tL22 h_x2) ?_
     refine R_q _ rfl (v_loadA_r (ov rfl) tA43 rfl rfl) ?_
     refine R_w _ _ rfl (w_alloc (row := [_, _, _, _, _, _, _, _]) 3 rfl tZ43 rfl tZ_43) ?_
     refine R_w _ _ rfl (w_store (ov rfl) (ov rfl) (cells_agg tA43 rfl) rfl rfl rfl (Nat.le_of_ble_eq_true rfl) (cell1_all rfl) rfl) ?_
     refine R_nil ?_
     refine T_keep (kc 1 rfl <| kc 4 rfl <| kc 12 rfl <| kc 14 rfl <| kc 47 rfl <| kc 48 rfl <| kc 49 rfl <| kn) rfl ?_
     refine T_seq (T_reg ?_)
     refine R_q _ rfl (v_assign (ov rfl)) ?_
     refine R_nil ?_
     refine T_joinG id (t1 fun gone => ⟨[(1, .sl 9 (List.map R9 names)), (4, .ptr 0 1 0 0), (12, .ptr 1 1 0 0), (14, .ptr 3 1 0 0), (15, .bool gone), (47, .sl 43 (List.map R43 m.Params)), (48, .int .i64 (m.Params.length : Int)), (49, .int .i64 i2)], [some ⟨24, [[.int .i64 0, .nils]]⟩, some ⟨24, [[.int .i64 m.Version, .own 2 Params2.length]]⟩, some ⟨43, List.map R43 Params2⟩, some ⟨43, [[.str x2.Name, .int .i64 x2.Kind, .sl 109 (List.map R109 x2.Parts), .int .i64 x2.First, .int .i64 x2.Every, .int .i64 x2.Times, .int .i64 x2.Step, .sl 9 (List.map R9 x2.Names)]]⟩]⟩) h (fun h => ?_) (fun j h => ?_)
     ·
      refine T_seq (T_reg ?_)
      refine R_q _ rfl (v_move (ov rfl)) ?_
      refine R_q _ rfl (v_len (slv_sl (ov rfl) tZ_9) tL41 (len_map _ _)) ?_
      refine R_q _ rfl (v_move (ov rfl)) ?_
      refine R_nil ?_
      refine T_block ?_
      obtain ⟨r3, hl3, ho3⟩ := bndL h
      refine T_loopG _ (t2 fun gone2 i3 => ⟨[(1, .sl 9 (List.map R9 names)), (4, .ptr 0 1 0 0), (12, .ptr 1 1 0 0), (14, .ptr 3 1 0 0), (15, .bool gone2), (47, .sl 43 (List.map R43 m.Params)), (48, .int .i64 (m.Params.length : Int)), (49, .int .i64 i2), (53, .sl 9 (List.map R9 names)), (54, .int .i64 (names.length : Int)), (55, .int .i64 i3)], [some ⟨24, [[.int .i64 0, .nils]]⟩, some ⟨24, [[.int .i64 m.Version, .own 2 Params2.length]]⟩, some ⟨43, List.map R43 Params2⟩, some ⟨43, [[.str x2.Name, .int .i64 x2.Kind, .sl 109 (List.map R109 x2.Parts), .int .i64 x2.First, .int .i64 x2.Every, .int .i64 x2.Times, .int .i64 x2.Step, .sl 9 (List.map R9 x2.Names)]]⟩]⟩) _ hl3 (Ent.sel [some 0, some 1, some 2, some 3] (sd 1 rfl rfl <| sr 4 rfl (.ptr _ _ _ rfl) <| sr 12 rfl (.ptr _ _ _ rfl) <| sr 14 rfl (.ptr _ _ _ rfl) <| sd 15 rfl rfl <| sd 47 rfl rfl <| sd 48 rfl rfl <| sd 49 rfl rfl <| sd 53 rfl rfl <| sd 54 rfl rfl <| sd 55 rfl rfl <| sn) (.cons rfl (ro1 (by exact tZ_24.symm) (rld rfl)) <| .cons rfl (ro1 (by exact tZ_24.symm) (rlc (.dat rfl) <| rlc (.own _ rfl) <| rln)) <| .cons rfl (roM D43) <| .cons rfl (ro1 (by exact tZ_43.symm) (rld rfl)) <| .nil) rfl rfl) (fun n3 s3 h => ?_)
      obtain ⟨gone2, i3⟩ := s3
      replace h := t2i h
      refine t2T ?_
      unfold ref2_Without_L3 at h
      refine T_seq (T_reg ?_)
      refine R_q _ rfl (v_lss (ov rfl) (ov rfl)) ?_
      refine R_nil ?_
      refine T_seq ?_
      refine T_if h rfl (fun b56 h => ?_) (fun b56 h => ?_)
      ·
       refine T_skip ?_
       refine T_seq ?_
       refine T_block ?_
       refine T_keep (kc 1 rfl <| kc 4 rfl <| kc 12 rfl <| kc 14 rfl <| kc 15 rfl <| kc 47 rfl <| kc 48 rfl <| kc 49 rfl <| kc 53 rfl <| kc 54 rfl <| kc 55 rfl <| kn) rfl ?_
       refine T_seq (T_reg ?_)
       obtain ⟨x3, h_x3, h⟩ := bnd h
       refine R_q _ rfl (v_ixSG (ov rfl) (ov rfl) tL41 h_x3) ?_
       refine R_q _ rfl (v_loadS_r (ov rfl) tS9 rfl) ?_
       refine R_q _ rfl (v_assign (ov rfl)) ?_
       refine R_nil ?_
       refine T_keep (kc 1 rfl <| kc 4 rfl <| kc 12 rfl <| kc 14 rfl <| kc 15 rfl <| kc 17 rfl <| kc 47 rfl <| kc 48 rfl <| kc 49 rfl <| kc 53 rfl <| kc 54 rfl <| kc 55 rfl <| kn) rfl ?_
       refine T_reg ?_
       refine R_q _ rfl (v_move (ov rfl)) ?_
       refine R_q _ rfl (v_move (ov rfl)) ?_
       refine R_q _ rfl (.guarded (gone2 == false) rfl rfl rfl rfl fun h => v_move (ov rfl)) ?_
       refine R_q _ rfl (.guarded (gone2 == false) rfl rfl rfl rfl fun h => v_fieldP (ov rfl) rfl rfl tF43_0) ?_
       refine R_q _ rfl (.guarded (gone2 == false) rfl rfl rfl rfl fun h => v_loadS (ow rfl h) rfl rfl rfl tS9 rfl) ?_
       refine R_q _ rfl (.guarded (gone2 == false) rfl rfl rfl rfl fun h => v_eqlStr (ow rfl h) (ow rfl h)) ?_
       refine R_q _ rfl (v_or (ov rfl) (fun hp => ow rfl (gF hp))) ?_
       refine R_q _ rfl (v_assign (ov rfl)) ?_
       refine R_nil ?_
       refine T_keep (kc 1 rfl <| kc 4 rfl <| kc 12 rfl <| kc 14 rfl <| kc 15 rfl <| kc 47 rfl <| kc 48 rfl <| kc 49 rfl <| kc 53 rfl <| kc 54 rfl <| kc 55 rfl <| kn) rfl ?_
       refine T_reg ?_
       refine R_q _ rfl (v_add (ov rfl) (ov rfl) rfl) ?_
       refine R_q _ rfl (v_move (ov rfl)) ?_
       refine R_nil ?_
       exact ⟨((gone2 || (decide (x3 = x2.Name))), (i64 (i3 + 1))), h, Ent.sel [some 0, some 1, some 2, some 3] (sd 1 rfl rfl <| sr 4 rfl (.ptr _ _ _ rfl) <| sr 12 rfl (.ptr _ _ _ rfl) <| sr 14 rfl (.ptr _ _ _ rfl) <| sd 15 rfl rfl <| sd 47 rfl rfl <| sd 48 rfl rfl <| sd 49 rfl rfl <| sd 53 rfl rfl <| sd 54 rfl rfl <| sd 55 rfl rfl <| sn) (.cons rfl (ro1 (by exact tZ_24.symm) (rld rfl)) <| .cons rfl (ro1 (by exact tZ_24.symm) (rlc (.dat rfl) <| rlc (.own _ rfl) <| rln)) <| .cons rfl (roM D43) <| .cons rfl (ro1 (by exact tZ_43.symm) (rld rfl)) <| .nil) rfl rfl⟩
      ·
       refine T_exit ?_
       rw [lx h] at ho3
       replace h := ho3
       exact ⟨gone2, h, Ent.sel [some 0, some 1, some 2, some 3] (sd 1 rfl rfl <| sr 4 rfl (.ptr _ _ _ rfl) <| sr 12 rfl (.ptr _ _ _ rfl) <| sr 14 rfl (.ptr _ _ _ rfl) <| sd 15 rfl rfl <| sd 47 rfl rfl <| sd 48 rfl rfl <| sd 49 rfl rfl <| sn) (.cons rfl (ro1 (by exact tZ_24.symm) (rld rfl)) <| .cons rfl (ro1 (by exact tZ_24.symm) (rlc (.dat rfl) <| rlc (.own _ rfl) <| rln)) <| .cons rfl (roM D43) <| .cons rfl (ro1 (by exact tZ_43.symm) (rld rfl)) <| .nil) rfl rfl⟩
     ·
      obtain ⟨gone, rfl⟩ : ∃ x, x = j := ⟨_, rfl⟩
      replace h := t1i h
      refine t1T ?_
      refine T_seq (T_reg ?_)
      refine R_q _ rfl (v_move (ov rfl)) ?_
      refine R_q _ rfl (v_not (ov rfl)) ?_
      refine R_nil ?_
      refine T_keep (kc 1 rfl <| kc 4 rfl <| kc 12 rfl <| kc 14 rfl <| kc 47 rfl <| kc 48 rfl <| kc 49 rfl <| kc 68 rfl <| kn) rfl ?_
      refine T_if h rfl (fun b68 h => ?_) (fun b68 h => ?_)
      ·
       refine T_keep (kc 1 rfl <| kc 4 rfl <| kc 12 rfl <| kc 14 rfl <| kc 47 rfl <| kc 48 rfl <| kc 49 rfl <| kn) rfl ?_
       refine T_reg ?_
       refine R_q _ rfl (v_fieldP (ov rfl) rfl rfl tF24_1) ?_
       refine R_q _ rfl (v_loadS (ov rfl) rfl rfl rfl tS22 rfl) ?_
       refine R_q _ rfl (v_loadA (ov rfl) rfl rfl rfl tA43 rfl rfl) ?_
       refine R_q (.sl 43 (List.map R43 ([x2] : List api_Param))) rfl (v_lit tL22 (.cons (cva (ov rfl)) rfl (pwD rfl) <| .nil) rfl rfl) ?_
       obtain ⟨l, h_l, h⟩ := bnd h
       refine R_w _ _ rfl (w_appendG (ov rfl) (slv_sl (ov rfl) tZ_43) tL22 rfl rfl rfl (fun _ => cell1_all rfl) rfl h_l) ?_
       refine R_q _ rfl (v_fieldP (ov rfl) rfl rfl tF24_1) ?_
       refine R_w _ _ rfl (w_store (ov rfl) (ov rfl) (cells_scal tS22) rfl rfl rfl (Nat.le_of_ble_eq_true rfl) (cell1_all rfl) rfl) ?_
       refine R_nil ?_
       refine T_keep (kc 1 rfl <| kc 4 rfl <| kc 12 rfl <| kc 47 rfl <| kc 48 rfl <| kc 49 rfl <| kn) rfl ?_
       refine T_reg ?_
       refine R_q _ rfl (v_add (ov rfl) (ov rfl) rfl) ?_
       refine R_q _ rfl (v_move (ov rfl)) ?_
       refine R_nil ?_
       exact ⟨(l, (i64 (i2 + 1))), h, Ent.sel [some 0, some 1, some 2] (sd 1 rfl rfl <| sr 4 rfl (.ptr _ _ _ rfl) <| sr 12 rfl (.ptr _ _ _ rfl) <| sd 47 rfl rfl <| sd 48 rfl rfl <| sd 49 rfl rfl <| sn) (.cons rfl (ro1 (by exact tZ_24.symm) (rld rfl)) <| .cons rfl (ro1 (by exact tZ_24.symm) (rlc (.dat rfl) <| rlc (.own _ rfl) <| rln)) <| .cons rfl (roM D43) <| .nil) rfl rfl⟩
      ·
       refine T_skip ?_
       refine T_keep (kc 1 rfl <| kc 4 rfl <| kc 12 rfl <| kc 47 rfl <| kc 48 rfl <| kc 49 rfl <| kn) rfl ?_
       refine T_reg ?_
       refine R_q _ rfl (v_add (ov rfl) (ov rfl) rfl) ?_
       refine R_q _ rfl (v_move (ov rfl)) ?_
       refine R_nil ?_
       exact ⟨(Params2, (i64 (i2 + 1))), h, Ent.sel [some 0, some 1, some 2] (sd 1 rfl rfl <| sr 4 rfl (.ptr _ _ _ rfl) <| sr 12 rfl (.ptr _ _ _ rfl) <| sd 47 rfl rfl <| sd 48 rfl rfl <| sd 49 rfl rfl <| sn) (.cons rfl (ro1 (by exact tZ_24.symm) (rld rfl)) <| .cons rfl (ro1 (by exact tZ_24.symm) (rlc (.dat rfl) <| rlc (.own _ rfl) <| rln)) <| .cons rfl (roM D43) <| .nil) rfl rfl⟩
    ·
     refine T_exit ?_
     rw [lx h] at ho2
     replace h := ho2
     exact ⟨Params2, h, Ent.sel [some 0, some 1, some 2] (sr 4 rfl (.ptr _ _ _ rfl) <| sr 12 rfl (.ptr _ _ _ rfl) <| sn) (.cons rfl (ro1 (by exact tZ_24.symm) (rld rfl)) <| .cons rfl (ro1 (by exact tZ_24.symm) (rlc (.dat rfl) <| rlc (.own _ rfl) <| rln)) <| .cons rfl (roM D43) <| .nil) rfl rfl⟩
   ·
    obtain ⟨Params, rfl⟩ : ∃ x, x = j := ⟨_, rfl⟩
    replace h := t1i h
    refine t1T ?_
    refine T_seq (T_reg ?_)
    refine R_q _ rfl (v_loadA (ov rfl) rfl rfl rfl tA24 rfl rfl) ?_
    refine R_w _ _ rfl (w_store (ov rfl) (ov rfl) (cells_agg tA24 rfl) rfl rfl rfl (Nat.le_of_ble_eq_true rfl) (cell1_all rfl) rfl) ?_
    refine R_q _ rfl (v_assign (ov rfl)) ?_
    refine R_nil ?_
    obtain rfl := rt (v := ((api_Map.mk m.Version Params), 0)) h
    refine T_ret (retq ?_ (.two (.agg rfl rfl rfl rfl tA24 rfl rfl (.cons (Dat.view (.b rfl)) <| .cons (View.ownM rfl rfl D43) <| .nil)) (.tmp rfl (Dat.view (.b rfl)))))
    rfl

theorem ok_slices_EqualFunc_api_Param_api_Param_api_Param_api_Param {s1 : List api_Param} {s2 : List api_Param} {eq : api_Param → api_Param → Option Bool} {r : Bool} {eq_f : FuncId} {eq_c : List AV} (eq_d : eq_c.all datB = true) (eq_h : ∀ (z0 : api_Param) (z1 : api_Param) z, eq z0 z1 = some z → CSpec Try.prog gl0 eq_f ([.agg [.str z0.Name, .int .i64 z0.Kind, .sl 109 (List.map R109 z0.Parts), .int .i64 z0.First, .int .i64 z0.Every, .int .i64 z0.Times, .int .i64 z0.Step, .sl 9 (List.map R9 z0.Names)], .agg [.str z1.Name, .int .i64 z1.Kind, .sl 109 (List.map R109 z1.Parts), .int .i64 z1.First, .int .i64 z1.Every, .int .i64 z1.Times, .int .i64 z1.Step, .sl 9 (List.map R9 z1.Names)]] ++ eq_c) (.bool z)) (h : slices_EqualFunc_api_Param_api_Param_api_Param_api_Param s1 s2 eq = some r) :
  CSpec Try.prog gl0 97 [.sl 43 (List.map R43 s1), .sl 43 (List.map R43 s2), .fn eq_f eq_c] (.bool r) := by
 unfold slices_EqualFunc_api_Param_api_Param_api_Param_api_Param at h
 replace h := bnd0 h
 refine spec_of (by kernel_rfl) Try.func97 rfl rfl ?_
 intro w0 A
 refine T_seq (T_reg ?_)
 refine R_q _ rfl (v_assign (ov rfl)) ?_
 refine R_nil ?_
 refine T_seq ?_
 refine T_keep (kc 0 rfl <| kc 1 rfl <| kc 2 rfl <| kn) rfl ?_
 refine T_seq (T_reg ?_)
 refine R_q _ rfl (v_move (ov rfl)) ?_
 refine R_q _ rfl (v_len (slv_sl (ov rfl) tZ_43) tL22 (len_map _ _)) ?_
 refine R_q _ rfl (v_move (ov rfl)) ?_
 refine R_q _ rfl (v_len (slv_sl (ov rfl) tZ_43) tL22 (len_map _ _)) ?_
 refine R_q _ rfl (v_neq (ov rfl) (ov rfl)) ?_
 refine R_nil ?_
 refine T_keep (kc 0 rfl <| kc 1 rfl <| kc 2 rfl <| kc 14 rfl <| kn) rfl ?_
 refine T_if h rfl (fun b14 h => ?_) (fun b14 h => ?_)
 ·
  refine T_keep (kn) rfl ?_
  refine T_seq (T_reg ?_)
  refine R_q _ rfl (v_assign (ov rfl)) ?_
  refine R_nil ?_
  obtain rfl := rt (v := false) h
  refine T_ret (retq ?_ (.one (.tmp rfl (Dat.view (.b rfl)))))
  rfl
 ·
  refine T_skip ?_
  refine T_joinG (fun j => (.inr j)) (t0 ⟨[], []⟩) h (fun h => ?_) (fun j h => ?_)
  ·
   refine T_keep (kc 0 rfl <| kc 1 rfl <| kc 2 rfl <| kn) rfl ?_
   refine T_seq (T_reg ?_)
   refine R_q _ rfl (v_move (ov rfl)) ?_
   refine R_q _ rfl (v_len (slv_sl (ov rfl) tZ_43) tL22 (len_map _ _)) ?_
   refine R_q _ rfl (v_move (ov rfl)) ?_
   refine R_nil ?_
   refine T_block ?_
   obtain ⟨r1, hl1, ho1⟩ := bndL h
   refine T_loopG _ (t1 fun i => ⟨[(1, .sl 43 (List.map R43 s2)), (2, .fn eq_f eq_c), (15, .sl 43 (List.map R43 s1)), (16, .int .i64 (s1.length : Int)), (17, .int .i64 i)], []⟩) _ hl1 (Ent.sel [] (sd 1 rfl rfl <| sr 2 rfl (rFn (rld eq_d)) <| sd 15 rfl rfl <| sd 16 rfl rfl <| sd 17 rfl rfl <| sn) (.nil) rfl rfl) (fun n1 s1 h => ?_)
   obtain ⟨i, rfl⟩ : ∃ x, x = s1 := ⟨_, rfl⟩
   replace h := t1i h
   refine t1T ?_
   unfold slices_EqualFunc_api_Param_api_Param_api_Param_api_Param_L1 at h
   refine T_seq (T_reg ?_)
   refine R_q _ rfl (v_lss (ov rfl) (ov rfl)) ?_
   refine R_nil ?_
   refine T_seq ?_
   refine T_if h rfl (fun b18 h => ?_) (fun b18 h => ?_)
   ·
    refine T_skip ?_
    refine T_seq ?_
    refine T_block ?_
    refine T_keep (kc 1 rfl <| kc 2 rfl <| kc 15 rfl <| kc 16 rfl <| kc 17 rfl <| kn) rfl ?_
    refine T_seq (T_reg ?_)
    refine R_q _ rfl (v_move (ov rfl)) ?_
    obtain ⟨x, h_x, h⟩ := bnd h
    refine R_q _ rfl (v_ixSG (ov rfl) (ov rfl) tL22 h_x) ?_
    refine R_q _ rfl (v_loadA_r (ov rfl) tA43 rfl rfl) ?_
    refine R_w _ _ rfl (w_alloc (row := [_, _, _, _, _, _, _, _]) 0 rfl tZ43 rfl tZ_43) ?_
    refine R_q _ rfl (v_assign (ov rfl)) ?_
    refine R_w _ _ rfl (w_store (ov rfl) (ov rfl) (cells_agg tA43 rfl) rfl rfl rfl (Nat.le_of_ble_eq_true rfl) (cell1_all rfl) rfl) ?_
    refine R_nil ?_
    refine T_keep (kc 1 rfl <| kc 2 rfl <| kc 7 rfl <| kc 8 rfl <| kc 15 rfl <| kc 16 rfl <| kc 17 rfl <| kn) rfl ?_
    refine T_seq (T_reg ?_)
    refine R_q _ rfl (v_move (ov rfl)) ?_
    refine R_q _ rfl (v_move (ov rfl)) ?_
    obtain ⟨x2, h_x2, h⟩ := bnd h
    refine R_q _ rfl (v_ixSG (ov rfl) (ov rfl) tL22 h_x2) ?_
    refine R_q _ rfl (v_loadA_r (ov rfl) tA43 rfl rfl) ?_
    refine R_w _ _ rfl (w_alloc (row := [_, _, _, _, _, _, _, _]) 1 rfl tZ43 rfl tZ_43) ?_
    refine R_w _ _ rfl (w_store (ov rfl) (ov rfl) (cells_agg tA43 rfl) rfl rfl rfl (Nat.le_of_ble_eq_true rfl) (cell1_all rfl) rfl) ?_
    refine R_nil ?_
    refine T_keep (kc 1 rfl <| kc 2 rfl <| kc 8 rfl <| kc 9 rfl <| kc 15 rfl <| kc 16 rfl <| kc 17 rfl <| kn) rfl ?_
    refine T_seq (T_reg ?_)
    refine R_q _ rfl (v_move (ov rfl)) ?_
    refine R_q _ rfl (v_loadA (ov rfl) rfl rfl rfl tA43 rfl rfl) ?_
    refine R_q _ rfl (v_loadA (ov rfl) rfl rfl rfl tA43 rfl rfl) ?_
    obtain ⟨y, h_y, h⟩ := bnd h
    refine R_q _ rfl (v_callC (ov rfl) eq_d (eq_h _ _ _ h_y) (.cons (ov rfl) (.aggB rfl) <| .cons (ov rfl) (.aggB rfl) <| .nil)) ?_
    refine R_q _ rfl (v_not (ov rfl)) ?_
    refine R_nil ?_
    refine T_keep (kc 1 rfl <| kc 2 rfl <| kc 15 rfl <| kc 16 rfl <| kc 17 rfl <| kc 30 rfl <| kn) rfl ?_
    refine T_if h rfl (fun b30 h => ?_) (fun b30 h => ?_)
    ·
     refine T_keep (kn) rfl ?_
     refine T_seq (T_reg ?_)
     refine R_q _ rfl (v_assign (ov rfl)) ?_
     refine R_nil ?_
     rw [lx h] at ho1
     replace h := ho1
     obtain rfl := rt (v := false) h
     refine T_ret (retq ?_ (.one (.tmp rfl (Dat.view (.b rfl)))))
     rfl
    ·
     refine T_skip ?_
     refine T_keep (kc 1 rfl <| kc 2 rfl <| kc 15 rfl <| kc 16 rfl <| kc 17 rfl <| kn) rfl ?_
     refine T_reg ?_
     refine R_q _ rfl (v_add (ov rfl) (ov rfl) rfl) ?_
     refine R_q _ rfl (v_move (ov rfl)) ?_
     refine R_nil ?_
     exact ⟨(i64 (i + 1)), h, Ent.sel [] (sd 1 rfl rfl <| sr 2 rfl (rFn (rld eq_d)) <| sd 15 rfl rfl <| sd 16 rfl rfl <| sd 17 rfl rfl <| sn) (.nil) rfl rfl⟩
   ·
    refine T_exit ?_
    rw [lx h] at ho1
    replace h := ho1
    exact ⟨(), h, Ent.sel [] (sn) (.nil) rfl rfl⟩
  ·
   replace h := elr h
   cases j
   replace h := t0i h
   refine t0T ?_
   refine T_seq (T_reg ?_)
   refine R_q _ rfl (v_assign (ov rfl)) ?_
   refine R_nil ?_
   obtain rfl := rt (v := true) h
   refine T_ret (retq ?_ (.one (.tmp rfl (Dat.view (.b rfl)))))
   rfl

theorem ok_slices_Equal_api_Part_api_Part {s1 : List api_Part} {s2 : List api_Part} {r : Bool} (h : slices_Equal_api_Part_api_Part s1 s2 = some r) :
  CSpec Try.prog gl0 89 [.sl 109 (List.map R109 s1), .sl 109 (List.map R109 s2)] (.bool r) := by
 unfold slices_Equal_api_Part_api_Part at h
 replace h := bnd0 h
 refine spec_of (by kernel_rfl) Try.func89 rfl rfl ?_
 intro w0 A
 refine T_seq (T_reg ?_)
 refine R_q _ rfl (v_assign (ov rfl)) ?_
 refine R_nil ?_
 refine T_seq ?_
 refine T_keep (kc 0 rfl <| kc 1 rfl <| kn) rfl ?_
 refine T_seq (T_reg ?_)
 refine R_q _ rfl (v_move (ov rfl)) ?_
 refine R_q _ rfl (v_len (slv_sl (ov rfl) tZ_109) tL40 (len_map _ _)) ?_
 refine R_q _ rfl (v_move (ov rfl)) ?_
 refine R_q _ rfl (v_len (slv_sl (ov rfl) tZ_109) tL40 (len_map _ _)) ?_
 refine R_q _ rfl (v_neq (ov rfl) (ov rfl)) ?_
 refine R_nil ?_
 refine T_keep (kc 0 rfl <| kc 1 rfl <| kc 10 rfl <| kn) rfl ?_
 refine T_if h rfl (fun b10 h => ?_) (fun b10 h => ?_)
 ·
  refine T_keep (kn) rfl ?_
  refine T_seq (T_reg ?_)
  refine R_q _ rfl (v_assign (ov rfl)) ?_
  refine R_nil ?_
  obtain rfl := rt (v := false) h
  refine T_ret (retq ?_ (.one (.tmp rfl (Dat.view (.b rfl)))))
  rfl
 ·
  refine T_skip ?_
  refine T_joinG (fun j => (.inr j)) (t0 ⟨[], []⟩) h (fun h => ?_) (fun j h => ?_)
  ·
   refine T_keep (kc 0 rfl <| kc 1 rfl <| kn) rfl ?_
   refine T_seq (T_reg ?_)
   refine R_q _ rfl (v_move (ov rfl)) ?_
   refine R_q _ rfl (v_len (slv_sl (ov rfl) tZ_109) tL40 (len_map _ _)) ?_
   refine R_q _ rfl (v_move (ov rfl)) ?_
   refine R_nil ?_
   refine T_block ?_
   obtain ⟨r1, hl1, ho1⟩ := bndL h
   refine T_loopG _ (t1 fun i => ⟨[(0, .sl 109 (List.map R109 s1)), (1, .sl 109 (List.map R109 s2)), (12, .int .i64 (s1.length : Int)), (13, .int .i64 i)], []⟩) _ hl1 (Ent.sel [] (sd 0 rfl rfl <| sd 1 rfl rfl <| sd 12 rfl rfl <| sd 13 rfl rfl <| sn) (.nil) rfl rfl) (fun n1 s1 h => ?_)
   obtain ⟨i, rfl⟩ : ∃ x, x = s1 := ⟨_, rfl⟩
   replace h := t1i h
   refine t1T ?_
   unfold slices_Equal_api_Part_api_Part_L1 at h
   refine T_seq (T_reg ?_)
   refine R_q _ rfl (v_lss (ov rfl) (ov rfl)) ?_
   refine R_nil ?_
   refine T_seq ?_
   refine T_if h rfl (fun b14 h => ?_) (fun b14 h => ?_)
   ·
    refine T_skip ?_
    refine T_seq ?_
    refine T_block ?_
    refine T_keep (kc 0 rfl <| kc 1 rfl <| kc 12 rfl <| kc 13 rfl <| kn) rfl ?_
    refine T_seq (T_reg ?_)
    refine R_q _ rfl (v_move (ov rfl)) ?_
    refine R_q _ rfl (v_assign (ov rfl)) ?_
    refine R_nil ?_
    refine T_keep (kc 0 rfl <| kc 1 rfl <| kc 5 rfl <| kc 12 rfl <| kc 13 rfl <| kn) rfl ?_
    refine T_seq (T_draw (cw := md0) (by kernel_rfl) ?_)
    refine D_q0 0 _ rfl (by kernel_rfl) rfl rfl (v_move (ov rfl)) ?_
    refine D_q0 1 _ rfl (by kernel_rfl) rfl rfl (v_move (ov rfl)) ?_
    obtain ⟨x, h_x, h⟩ := bnd h
    refine D_q0 2 _ rfl (by kernel_rfl) rfl rfl (v_ixSG (ov rfl) (ov rfl) tL40 h_x) ?_
    refine D_q0 3 _ rfl (by kernel_rfl) rfl rfl (v_loadA_r (ov rfl) tA109 rfl rfl) ?_
    refine D_q0 4 _ rfl (by kernel_rfl) rfl rfl (v_move (ov rfl)) ?_
    refine D_q0 5 _ rfl (by kernel_rfl) rfl rfl (v_move (ov rfl)) ?_
    obtain ⟨x2, h_x2, h⟩ := bnd h
    refine D_q0 6 _ rfl (by kernel_rfl) rfl rfl (v_ixSG (ov rfl) (ov rfl) tL40 h_x2) ?_
    refine D_q0 7 _ rfl (by kernel_rfl) rfl rfl (v_loadA_r (ov rfl) tA109 rfl rfl) ?_
    refine D_q0 8 _ rfl (by kernel_rfl) rfl rfl (v_neqS tFS109 (ov rfl) (ov rfl) (.aggB rfl) (.aggB rfl) rfl rfl) ?_
    refine D_done (by kernel_rfl) ?_
    refine T_keep (kc 0 rfl <| kc 1 rfl <| kc 12 rfl <| kc 13 rfl <| kc 24 rfl <| kn) rfl ?_
    refine T_if h rfl (fun b24 h => ?_) (fun b24 h => ?_)
    ·
     refine T_keep (kn) rfl ?_
     refine T_seq (T_reg ?_)
     refine R_q _ rfl (v_assign (ov rfl)) ?_
     refine R_nil ?_
     rw [lx h] at ho1
     replace h := ho1
     obtain rfl := rt (v := false) h
     refine T_ret (retq ?_ (.one (.tmp rfl (Dat.view (.b rfl)))))
     rfl
    ·
     refine T_skip ?_
     refine T_keep (kc 0 rfl <| kc 1 rfl <| kc 12 rfl <| kc 13 rfl <| kn) rfl ?_
     refine T_reg ?_
     refine R_q _ rfl (v_add (ov rfl) (ov rfl) rfl) ?_
     refine R_q _ rfl (v_move (ov rfl)) ?_
     refine R_nil ?_
     exact ⟨(i64 (i + 1)), h, Ent.sel [] (sd 0 rfl rfl <| sd 1 rfl rfl <| sd 12 rfl rfl <| sd 13 rfl rfl <| sn) (.nil) rfl rfl⟩
   ·
    refine T_exit ?_
    rw [lx h] at ho1
    replace h := ho1
    exact ⟨(), h, Ent.sel [] (sn) (.nil) rfl rfl⟩
  ·
   replace h := elr h
   cases j
   replace h := t0i h
   refine t0T ?_
   refine T_seq (T_reg ?_)
   refine R_q _ rfl (v_assign (ov rfl)) ?_
   refine R_nil ?_
   obtain rfl := rt (v := true) h
   refine T_ret (retq ?_ (.one (.tmp rfl (Dat.view (.b rfl)))))
   rfl

theorem ok_slices_Equal_string_string {s1 : List Str} {s2 : List Str} {r : Bool} (h : slices_Equal_string_string s1 s2 = some r) :
  CSpec Try.prog gl0 88 [.sl 9 (List.map R9 s1), .sl 9 (List.map R9 s2)] (.bool r) := by
 unfold slices_Equal_string_string at h
 replace h := bnd0 h
 refine spec_of (by kernel_rfl) Try.func88 rfl rfl ?_
 intro w0 A
 refine T_seq (T_reg ?_)
 refine R_q _ rfl (v_assign (ov rfl)) ?_
 refine R_nil ?_
 refine T_seq ?_
 refine T_keep (kc 0 rfl <| kc 1 rfl <| kn) rfl ?_
 refine T_seq (T_reg ?_)
 refine R_q _ rfl (v_move (ov rfl)) ?_
 refine R_q _ rfl (v_len (slv_sl (ov rfl) tZ_9) tL41 (len_map _ _)) ?_
 refine R_q _ rfl (v_move (ov rfl)) ?_
 refine R_q _ rfl (v_len (slv_sl (ov rfl) tZ_9) tL41 (len_map _ _)) ?_
 refine R_q _ rfl (v_neq (ov rfl) (ov rfl)) ?_
 refine R_nil ?_
 refine T_keep (kc 0 rfl <| kc 1 rfl <| kc 10 rfl <| kn) rfl ?_
 refine T_if h rfl (fun b10 h => ?_) (fun b10 h => ?_)
 ·
  refine T_keep (kn) rfl ?_
  refine T_seq (T_reg ?_)
  refine R_q _ rfl (v_assign (ov rfl)) ?_
  refine R_nil ?_
  obtain rfl := rt (v := false) h
  refine T_ret (retq ?_ (.one (.tmp rfl (Dat.view (.b rfl)))))
  rfl
 ·
  refine T_skip ?_
  refine T_joinG (fun j => (.inr j)) (t0 ⟨[], []⟩) h (fun h => ?_) (fun j h => ?_)
  ·
   refine T_keep (kc 0 rfl <| kc 1 rfl <| kn) rfl ?_
   refine T_seq (T_reg ?_)
   refine R_q _ rfl (v_move (ov rfl)) ?_
   refine R_q _ rfl (v_len (slv_sl (ov rfl) tZ_9) tL41 (len_map _ _)) ?_
   refine R_q _ rfl (v_move (ov rfl)) ?_
   refine R_nil ?_
   refine T_block ?_
   obtain ⟨r1, hl1, ho1⟩ := bndL h
   refine T_loopG _ (t1 fun i => ⟨[(0, .sl 9 (List.map R9 s1)), (1, .sl 9 (List.map R9 s2)), (12, .int .i64 (s1.length : Int)), (13, .int .i64 i)], []⟩) _ hl1 (Ent.sel [] (sd 0 rfl rfl <| sd 1 rfl rfl <| sd 12 rfl rfl <| sd 13 rfl rfl <| sn) (.nil) rfl rfl) (fun n1 s1 h => ?_)
   obtain ⟨i, rfl⟩ : ∃ x, x = s1 := ⟨_, rfl⟩
   replace h := t1i h
   refine t1T ?_
   unfold slices_Equal_string_string_L1 at h
   refine T_seq (T_reg ?_)
   refine R_q _ rfl (v_lss (ov rfl) (ov rfl)) ?_
   refine R_nil ?_
   refine T_seq ?_
   refine T_if h rfl (fun b14 h => ?_) (fun b14 h => ?_)
   ·
    refine T_skip ?_
    refine T_seq ?_
    refine T_block ?_
    refine T_keep (kc 0 rfl <| kc 1 rfl <| kc 12 rfl <| kc 13 rfl <| kn) rfl ?_
    refine T_seq (T_reg ?_)
    refine R_q _ rfl (v_move (ov rfl)) ?_
    refine R_q _ rfl (v_assign (ov rfl)) ?_
    refine R_nil ?_
    refine T_keep (kc 0 rfl <| kc 1 rfl <| kc 5 rfl <| kc 12 rfl <| kc 13 rfl <| kn) rfl ?_
    refine T_seq (T_draw (cw := md0) (by kernel_rfl) ?_)
    refine D_q0 0 _ rfl (by kernel_rfl) rfl rfl (v_move (ov rfl)) ?_
    refine D_q0 1 _ rfl (by kernel_rfl) rfl rfl (v_move (ov rfl)) ?_
    obtain ⟨x, h_x, h⟩ := bnd h
    refine D_q0 2 _ rfl (by kernel_rfl) rfl rfl (v_ixSG (ov rfl) (ov rfl) tL41 h_x) ?_
    refine D_q0 3 _ rfl (by kernel_rfl) rfl rfl (v_loadS_r (ov rfl) tS9 rfl) ?_
    refine D_q0 4 _ rfl (by kernel_rfl) rfl rfl (v_move (ov rfl)) ?_
    refine D_q0 5 _ rfl (by kernel_rfl) rfl rfl (v_move (ov rfl)) ?_
    obtain ⟨x2, h_x2, h⟩ := bnd h
    refine D_q0 6 _ rfl (by kernel_rfl) rfl rfl (v_ixSG (ov rfl) (ov rfl) tL41 h_x2) ?_
    refine D_q0 7 _ rfl (by kernel_rfl) rfl rfl (v_loadS_r (ov rfl) tS9 rfl) ?_
    refine D_q0 8 _ rfl (by kernel_rfl) rfl rfl (v_neqStr (ov rfl) (ov rfl)) ?_
    refine D_done (by kernel_rfl) ?_
    refine T_keep (kc 0 rfl <| kc 1 rfl <| kc 12 rfl <| kc 13 rfl <| kc 24 rfl <| kn) rfl ?_
    refine T_if h rfl (fun b24 h => ?_) (fun b24 h => ?_)
    ·
     refine T_keep (kn) rfl ?_
     refine T_seq (T_reg ?_)
     refine R_q _ rfl (v_assign (ov rfl)) ?_
     refine R_nil ?_
     rw [lx h] at ho1
     replace h := ho1
     obtain rfl := rt (v := false) h
     refine T_ret (retq ?_ (.one (.tmp rfl (Dat.view (.b rfl)))))
     rfl
    ·
     refine T_skip ?_
     refine T_keep (kc 0 rfl <| kc 1 rfl <| kc 12 rfl <| kc 13 rfl <| kn) rfl ?_
     refine T_reg ?_
     refine R_q _ rfl (v_add (ov rfl) (ov rfl) rfl) ?_
     refine R_q _ rfl (v_move (ov rfl)) ?_
     refine R_nil ?_
     exact ⟨(i64 (i + 1)), h, Ent.sel [] (sd 0 rfl rfl <| sd 1 rfl rfl <| sd 12 rfl rfl <| sd 13 rfl rfl <| sn) (.nil) rfl rfl⟩
   ·
    refine T_exit ?_
    rw [lx h] at ho1
    replace h := ho1
    exact ⟨(), h, Ent.sel [] (sn) (.nil) rfl rfl⟩
  ·
   replace h := elr h
   cases j
   replace h := t0i h
   refine t0T ?_
   refine T_seq (T_reg ?_)
   refine R_q _ rfl (v_assign (ov rfl)) ?_
   refine R_nil ?_
   obtain rfl := rt (v := true) h
   refine T_ret (retq ?_ (.one (.tmp rfl (Dat.view (.b rfl)))))
   rfl

theorem ok_law2_sameParam {a : api_Param} {b : api_Param} {r : Bool} (h : law2_sameParam a b = some r) :
  CSpec Try.prog gl0 39 [.agg [.str a.Name, .int .i64 a.Kind, .sl 109 (List.map R109 a.Parts), .int .i64 a.First, .int .i64 a.Every, .int .i64 a.Times, .int .i64 a.Step, .sl 9 (List.map R9 a.Names)], .agg [.str b.Name, .int .i64 b.Kind, .sl 109 (List.map R109 b.Parts), .int .i64 b.First, .int .i64 b.Every, .int .i64 b.Times, .int .i64 b.Step, .sl 9 (List.map R9 b.Names)]] (.bool r) := by
 unfold law2_sameParam at h
 replace h := bnd0 h
 refine spec_of (by kernel_rfl) Try.func39 rfl rfl ?_
 intro w0 A
 refine T_seq (T_reg ?_)
 refine R_q _ rfl (v_boxD (cva (ov rfl)) rfl tZ_43 rfl) ?_
 refine R_q _ rfl (v_boxD (cva (ov rfl)) rfl tZ_43 rfl) ?_
 refine R_q _ rfl (v_assign (ov rfl)) ?_
 refine R_nil ?_
 refine T_keep (kc 2 rfl <| kc 3 rfl <| kc 4 rfl <| kn) rfl ?_
 refine T_seq (T_reg ?_)
 refine R_q _ rfl (v_fieldR (ov rfl) tF43_0) ?_
 refine R_q _ rfl (v_loadS_r (ov rfl) tS9 rfl) ?_
 refine R_q _ rfl (v_fieldR (ov rfl) tF43_0) ?_
 refine R_q _ rfl (v_loadS_r (ov rfl) tS9 rfl) ?_
 refine R_q _ rfl (v_eqlStr (ov rfl) (ov rfl)) ?_
 refine R_q _ rfl (v_move (ov rfl)) ?_
 refine R_q _ rfl (.guarded ((decide (a.Name = b.Name)) == true) rfl rfl rfl rfl fun h => v_fieldR (ov rfl) tF43_1) ?_
 refine R_q _ rfl (.guarded ((decide (a.Name = b.Name)) == true) rfl rfl rfl rfl fun h => v_loadS_r (ow rfl h) tS3 rfl) ?_
 refine R_q _ rfl (.guarded ((decide (a.Name = b.Name)) == true) rfl rfl rfl rfl fun h => v_fieldR (ov rfl) tF43_1) ?_
 refine R_q _ rfl (.guarded ((decide (a.Name = b.Name)) == true) rfl rfl rfl rfl fun h => v_loadS_r (ow rfl h) tS3 rfl) ?_
 refine R_q _ rfl (.guarded ((decide (a.Name = b.Name)) == true) rfl rfl rfl rfl fun h => v_eql (ow rfl h) (ow rfl h)) ?_
 refine R_q _ rfl (v_and (ov rfl) (fun hp => ow rfl (gT hp))) ?_
 refine R_q _ rfl (v_move (ov rfl)) ?_
 refine R_q _ rfl (.guarded (((decide (a.Name = b.Name)) && (decide (a.Kind = b.Kind))) == true) rfl rfl rfl rfl fun h => v_fieldR (ov rfl) tF43_2) ?_
 refine R_q _ rfl (.guarded (((decide (a.Name = b.Name)) && (decide (a.Kind = b.Kind))) == true) rfl rfl rfl rfl fun h => v_loadS_r (ow rfl h) tS40 rfl) ?_
 refine R_q _ rfl (.guarded (((decide (a.Name = b.Name)) && (decide (a.Kind = b.Kind))) == true) rfl rfl rfl rfl fun h => v_fieldR (ov rfl) tF43_2) ?_
 refine R_q _ rfl (.guarded (((decide (a.Name = b.Name)) && (decide (a.Kind = b.Kind))) == true) rfl rfl rfl rfl fun h => v_loadS_r (ow rfl h) tS40 rfl) ?_
 obtain ⟨y, h_y, h⟩ := bnd h
 refine R_q _ rfl (.guarded (((decide (a.Name = b.Name)) && (decide (a.Kind = b.Kind))) == true) rfl rfl rfl rfl fun h => v_call (ok_slices_Equal_api_Part_api_Part (gdT h_y h)) (.cons (ow rfl h) (.b rfl) <| .cons (ow rfl h) (.b rfl) <| .nil)) ?_
 refine R_q _ rfl (v_and (ov rfl) (fun hp => ow rfl (gT hp))) ?_
 refine R_q _ rfl (v_move (ov rfl)) ?_
 refine R_q _ rfl (.guarded ((((decide (a.Name = b.Name)) && (decide (a.Kind = b.Kind))) && y) == true) rfl rfl rfl rfl fun h => v_fieldR (ov rfl) tF43_3) ?_
 refine R_q _ rfl (.guarded ((((decide (a.Name = b.Name)) && (decide (a.Kind = b.Kind))) && y) == true) rfl rfl rfl rfl fun h => v_loadS_r (ow rfl h) tS3 rfl) ?_
 refine R_q _ rfl (.guarded ((((decide (a.Name = b.Name)) && (decide (a.Kind = b.Kind))) && y) == true) rfl rfl rfl rfl fun h => v_fieldR (ov rfl) tF43_3) ?_
 refine R_q _ rfl (.guarded ((((decide (a.Name = b.Name)) && (decide (a.Kind = b.Kind))) && y) == true) rfl rfl rfl rfl fun h => v_loadS_r (ow rfl h) tS3 rfl) ?_
 refine R_q _ rfl (.guarded ((((decide (a.Name = b.Name)) && (decide (a.Kind = b.Kind))) && y) == true) rfl rfl rfl rfl fun h => v_eql (ow rfl h) (ow rfl h)) ?_
 refine R_q _ rfl (v_and (ov rfl) (fun hp => ow rfl (gT hp))) ?_
 refine R_q _ rfl (v_move (ov rfl)) ?_
 refine R_q _ rfl (.guarded (((((decide (a.Name = b.Name)) && (decide (a.Kind = b.Kind))) && y) && (decide (a.First = b.First))) == true) rfl rfl rfl rfl fun h => v_fieldR (ov rfl) tF43_4) ?_
 refine R_q _ rfl (.guarded (((((decide (a.Name = b.Name)) && (decide (a.Kind = b.Kind))) && y) && (decide (a.First = b.First))) == true) rfl rfl rfl rfl fun h => v_loadS_r (ow rfl h) tS3 rfl) ?_
 refine R_q _ rfl (.guarded (((((decide (a.Name = b.Name)) && (decide (a.Kind = b.Kind))) && y) && (decide (a.First = b.First))) == true) rfl rfl rfl rfl fun h => v_fieldR (ov rfl) tF43_4) ?_
 refine R_q _ rfl (.guarded (((((decide (a.Name = b.Name)) && (decide (a.Kind = b.Kind))) && y) && (decide (a.First = b.First))) == true) rfl rfl rfl rfl fun h => v_loadS_r (ow rfl h) tS3 rfl) ?_
 refine R_q _ rfl (.guarded (((((decide (a.Name = b.Name)) && (decide (a.Kind = b.Kind))) && y) && (decide (a.First = b.First))) == true) rfl rfl rfl rfl fun h => v_eql (ow rfl h) (ow rfl h)) ?_
 refine R_q _ rfl (v_and (ov rfl) (fun hp => ow rfl (gT hp))) ?_
 refine R_q _ rfl (v_move (ov rfl)) ?_
 refine R_q _ rfl (.guarded ((((((decide (a.Name = b.Name)) && (decide (a.Kind = b.Kind))) && y) && (decide (a.First = b.First))) && (decide (a.Every = b.Every))) == true) rfl rfl rfl rfl fun h => v_fieldR (ov rfl) tF43_5) ?_
 refine R_q _ rfl (.guarded ((((((decide (a.Name = b.Name)) && (decide (a.Kind = b.Kind))) && y) && (decide (a.First = b.First))) && (decide (a.Every = b.Every))) == true) rfl rfl rfl rfl fun h => v_loadS_r (ow rfl h) tS3 rfl) ?_
 refine R_q _ rfl (.guarded ((((((decide (a.Name = b.Name)) && (decide (a.Kind = b.Kind))) && y) && (decide (a.First = b.First))) && (decide (a.Every = b.Every))) == true) rfl rfl rfl rfl fun h => v_fieldR (ov rfl) tF43_5) ?_
 refine R_q _ rfl (.guarded ((((((decide (a.Name = b.Name)) && (decide (a.Kind = b.Kind))) && y) && (decide (a.First = b.First))) && (decide (a.Every = b.Every))) == true) rfl rfl rfl rfl fun h => v_loadS_r (ow rfl h) tS3 rfl) ?_
 refine R_q _ rfl (.guarded ((((((decide (a.Name = b.Name)) && (decide (a.Kind = b.Kind))) && y) && (decide (a.First = b.First))) && (decide (a.Every = b.Every))) == true) rfl rfl rfl rfl fun h => v_eql (ow rfl h) (ow rfl h)) ?_
 refine R_q _ rfl (v_and (ov rfl) (fun hp => ow rfl (gT hp))) ?_
 refine R_q _ rfl (v_move (ov rfl)) ?_
 refine R_q _ rfl (.guarded (((((((decide (a.Name = b.Name)) && (decide (a.Kind = b.Kind))) && y) && (decide (a.First = b.First))) && (decide (a.Every = b.Every))) && (decide (a.Times = b.Times))) == true) rfl rfl rfl rfl fun h => v_fieldR (ov rfl) tF43_6) ?_
 refine R_q _ rfl (.guarded (((((((decide (a.Name = b.Name)) && (decide (a.Kind = b.Kind))) && y) && (decide (a.First = b.First))) && (decide (a.Every = b.Every))) && (decide (a.Times = b.Times))) == true) rfl rfl rfl rfl fun h => v_loadS_r (ow rfl h) tS3 rfl) ?_
 refine R_q _ rfl (.guarded (((((((decide (a.Name = b.Name)) && (decide (a.Kind = b.Kind))) && y) && (decide (a.First = b.First))) && (decide (a.Every = b.Every))) && (decide (a.Times = b.Times))) == true) rfl rfl rfl rfl fun h => v_fieldR (ov rfl) tF43_6) ?_
 refine R_q _ rfl (.guarded (((((((decide (a.Name = b.Name)) && (decide (a.Kind = b.Kind))) && y) && (decide (a.First = b.First))) && (decide (a.Every = b.Every))) && (decide (a.Times = b.Times))) == true) rfl rfl rfl rfl fun h => v_loadS_r (ow rfl h) tS3 rfl) ?_
 refine R_q _ rfl (.guarded (((((((decide (a.Name = b.Name)) && (decide (a.Kind = b.Kind))) && y) && (decide (a.First = b.First))) && (decide (a.Every = b.Every))) && (decide (a.Times = b.Times))) == true) rfl rfl rfl rfl fun h => v_eql (ow rfl h) (ow rfl h)) ?_
 refine R_q _ rfl (v_and (ov rfl) (fun hp => ow rfl (gT hp))) ?_
 refine R_q _ rfl (v_move (ov rfl)) ?_
 refine R_q _ rfl (.guarded ((((((((decide (a.Name = b.Name)) && (decide (a.Kind = b.Kind))) && y) && (decide (a.First = b.First))) && (decide (a.Every = b.Every))) && (decide (a.Times = b.Times))) && (decide (a.Step = b.Step))) == true) rfl rfl rfl rfl fun h => v_fieldR (ov rfl) tF43_7) ?_
 refine R_q _ rfl (.guarded ((((((((decide (a.Name = b.Name)) && (decide (a.Kind = b.Kind))) && y) && (decide (a.First = b.First))) && (decide (a.Every = b.Every))) && (decide (a.Times = b.Times))) && (decide (a.Step = b.Step))) == true) rfl rfl rfl rfl fun h => v_loadS_r (ow rfl h) tS41 rfl) ?_
 refine R_q _ rfl (.guarded ((((((((decide (a.Name = b.Name)) && (decide (a.Kind = b.Kind))) && y) && (decide (a.First = b.First))) && (decide (a.Every = b.Every))) && (decide (a.Times = b.Times))) && (decide (a.Step = b.Step))) == true) rfl rfl rfl rfl fun h => v_fieldR (ov rfl) tF43_7) ?_
 refine R_q _ rfl (.guarded ((((((((decide (a.Name = b.Name)) && (decide (a.Kind = b.Kind))) && y) && (decide (a.First = b.First))) && (decide (a.Every = b.Every))) && (decide (a.Times = b.Times))) && (decide (a.Step = b.Step))) == true) rfl rfl rfl rfl fun h => v_loadS_r (ow rfl h) tS41 rfl) ?_
 obtain ⟨y2, h_y2, h⟩ := bnd h
 refine R_q _ rfl (.guarded ((((((((decide (a.Name = b.Name)) && (decide (a.Kind = b.Kind))) && y) && (decide (a.First = b.First))) && (decide (a.Every = b.Every))) && (decide (a.Times = b.Times))) && (decide (a.Step = b.Step))) == true) rfl rfl rfl rfl fun h => v_call (ok_slices_Equal_string_string (gdT h_y2 h)) (.cons (ow rfl h) (.b rfl) <| .cons (ow rfl h) (.b rfl) <| .nil)) ?_
 refine R_q _ rfl (v_and (ov rfl) (fun hp => ow rfl (gT hp))) ?_
 refine R_q _ rfl (v_assign (ov rfl)) ?_
 refine R_nil ?_
 obtain rfl := rt (v := ((((((((decide (a.Name = b.Name)) && (decide (a.Kind = b.Kind))) && y) && (decide (a.First = b.First))) && (decide (a.Every = b.Every))) && (decide (a.Times = b.Times))) && (decide (a.Step = b.Step))) && y2)) h
 refine T_ret (retq ?_ (.one (.tmp rfl (Dat.view (.b rfl)))))
 rfl

theorem ok_law2_sameMap {a : api_Map} {b : api_Map} {r : Bool} (h : law2_sameMap a b = some r) :
  CSpec Try.prog gl0 53 [.agg [.int .i64 a.Version, .sl 43 (List.map R43 a.Params)], .agg [.int .i64 b.Version, .sl 43 (List.map R43 b.Params)]] (.bool r) := by
 unfold law2_sameMap at h
 replace h := bnd0 h
 refine spec_of (by kernel_rfl) Try.func53 rfl rfl ?_
 intro w0 A
 refine T_seq (T_reg ?_)
 refine R_q _ rfl (v_boxD (cva (ov rfl)) rfl tZ_24 rfl) ?_
 refine R_q _ rfl (v_boxD (cva (ov rfl)) rfl tZ_24 rfl) ?_
 refine R_q _ rfl (v_assign (ov rfl)) ?_
 refine R_nil ?_
 refine T_keep (kc 2 rfl <| kc 3 rfl <| kc 4 rfl <| kn) rfl ?_
 refine T_seq (T_reg ?_)
 refine R_q _ rfl (v_fieldR (ov rfl) tF24_0) ?_
 refine R_q _ rfl (v_loadS_r (ov rfl) tS3 rfl) ?_
 refine R_q _ rfl (v_fieldR (ov rfl) tF24_0) ?_
 refine R_q _ rfl (v_loadS_r (ov rfl) tS3 rfl) ?_
 refine R_q _ rfl (v_eql (ov rfl) (ov rfl)) ?_
 refine R_q _ rfl (v_move (ov rfl)) ?_
 refine R_q _ rfl (.guarded ((decide (a.Version = b.Version)) == true) rfl rfl rfl rfl fun h => v_fieldR (ov rfl) tF24_1) ?_
 refine R_q _ rfl (.guarded ((decide (a.Version = b.Version)) == true) rfl rfl rfl rfl fun h => v_loadS_r (ow rfl h) tS22 rfl) ?_
 refine R_q _ rfl (.guarded ((decide (a.Version = b.Version)) == true) rfl rfl rfl rfl fun h => v_fieldR (ov rfl) tF24_1) ?_
 refine R_q _ rfl (.guarded ((decide (a.Version = b.Version)) == true) rfl rfl rfl rfl fun h => v_loadS_r (ow rfl h) tS22 rfl) ?_
 obtain ⟨y, h_y, h⟩ := bnd h
 refine R_q _ rfl (.guarded ((decide (a.Version = b.Version)) == true) rfl rfl rfl rfl fun h => v_call (ok_slices_EqualFunc_api_Param_api_Param_api_Param_api_Param rfl (fun z0 z1 _ hz => ok_law2_sameParam hz) (gdT h_y h)) (.cons (ow rfl h) (.b rfl) <| .cons (ow rfl h) (.b rfl) <| .cons (ov rfl) (.fn) <| .nil)) ?_
 refine R_q _ rfl (v_and (ov rfl) (fun hp => ow rfl (gT hp))) ?_
 refine R_q _ rfl (v_assign (ov rfl)) ?_
 refine R_nil ?_
 obtain rfl := rt (v := ((decide (a.Version = b.Version)) && y)) h
 refine T_ret (retq ?_ (.one (.tmp rfl (Dat.view (.b rfl)))))
 rfl

theorem ok_layout_cells {m : api_Map} {r : (List api_Cell)} (h : layout_cells m = some r) :
  CSpec Try.prog gl0 58 [.agg [.int .i64 m.Version, .sl 43 (List.map R43 m.Params)]] (.sl 54 (List.map R54 r)) := by
 unfold layout_cells at h
 replace h := bnd0 h
 refine spec_of (by kernel_rfl) Try.func58 rfl rfl ?_
 intro w0 A
 refine T_seq (T_reg ?_)
 refine R_q _ rfl (v_boxD (cva (ov rfl)) rfl tZ_24 rfl) ?_
 refine R_q _ rfl (v_assign (ov rfl)) ?_
 refine R_nil ?_
 refine T_keep (kc 1 rfl <| kn) rfl ?_
 refine T_seq (T_reg ?_)
 refine R_q _ rfl (v_assign (ov rfl)) ?_
 refine R_nil ?_
 refine T_joinG id (t1 fun out => ⟨[(3, .own 0 out.length)], [some ⟨54, List.map R54 out⟩]⟩) h (fun h => ?_) (fun j h => ?_)
 ·
  refine T_seq (T_reg ?_)
  refine R_q _ rfl (v_fieldR (ov rfl) tF24_1) ?_
  refine R_q _ rfl (v_loadS_r (ov rfl) tS22 rfl) ?_
  refine R_q _ rfl (v_len (slv_sl (ov rfl) tZ_43) tL22 (len_map _ _)) ?_
  refine R_q _ rfl (v_move (ov rfl)) ?_
  refine R_nil ?_
  refine T_block ?_
  obtain ⟨r1, hl1, ho1⟩ := bndL h
  refine T_loopG _ (t2 fun out2 i => ⟨[(3, .own 0 out2.length), (7, .sl 43 (List.map R43 m.Params)), (8, .int .i64 (m.Params.length : Int)), (9, .int .i64 i)], [some ⟨54, List.map R54 out2⟩]⟩) _ hl1 (Ent.sel [none] (sr 3 rfl (.row rfl) <| sd 7 rfl rfl <| sd 8 rfl rfl <| sd 9 rfl rfl <| sn) (.row 54 <| .nil) rfl rfl) (fun n1 s1 h => ?_)
  obtain ⟨out2, i⟩ := s1
  replace h := t2i h
  refine t2T ?_
  unfold layout_cells_L1 at h
  refine T_seq (T_reg ?_)
  refine R_q _ rfl (v_lss (ov rfl) (ov rfl)) ?_
  refine R_nil ?_
  refine T_seq ?_
  refine T_if h rfl (fun b10 h => ?_) (fun b10 h => ?_)
  ·
   refine T_skip ?_
   refine T_seq ?_
   refine T_block ?_
   refine T_keep (kc 3 rfl <| kc 7 rfl <| kc 8 rfl <| kc 9 rfl <| kn) rfl ?_
   refine T_seq (T_reg ?_)
   refine R_q _ rfl (v_move (ov rfl)) ?_
   obtain ⟨x, h_x, h⟩ := bnd h
   refine R_q _ rfl (v_ixSG (ov rfl) (ov rfl) tL22 h_x) ?_
   refine R_q _ rfl (v_loadA_r (ov rfl) tA43 rfl rfl) ?_
   refine R_w _ _ rfl (w_alloc (row := [_, _, _, _, _, _, _, _]) 1 rfl tZ43 rfl tZ_43) ?_
   refine R_q _ rfl (v_assign (ov rfl)) ?_
   refine R_w _ _ rfl (w_store (ov rfl) (ov rfl) (cells_agg tA43 rfl) rfl rfl rfl (Nat.le_of_ble_eq_true rfl) (cell1_all rfl) rfl) ?_
   refine R_nil ?_
   refine T_keep (kc 3 rfl <| kc 4 rfl <| kc 5 rfl <| kc 7 rfl <| kc 8 rfl <| kc 9 rfl <| kn) rfl ?_
   refine T_reg ?_
   refine R_q _ rfl (v_move (ov rfl)) ?_
   refine R_q _ rfl (v_move (ov rfl)) ?_
   refine R_q _ rfl (v_loadA (ov rfl) rfl rfl rfl tA43 rfl rfl) ?_
   obtain ⟨y, h_y, h⟩ := bnd h
   refine R_q _ rfl (v_call (ok_layout_cellsOf h_y) (.cons (ov rfl) (.b rfl) <| .cons (ov rfl) (.aggB rfl) <| .nil)) ?_
   obtain ⟨l, h_l, h⟩ := bnd h
   refine R_w _ _ rfl (w_appendZ (ov rfl) (slv_sl (ov rfl) tZ_54) tL62 rfl rfl (fun _ => cell1_all rfl) rfl h_l) ?_
   refine R_q _ rfl (v_assign (ov rfl)) ?_
   refine R_nil ?_
   refine T_keep (kc 3 rfl <| kc 7 rfl <| kc 8 rfl <| kc 9 rfl <| kn) rfl ?_
   refine T_reg ?_
   refine R_q _ rfl (v_add (ov rfl) (ov rfl) rfl) ?_
   refine R_q _ rfl (v_move (ov rfl)) ?_
   refine R_nil ?_
   exact ⟨(l, (i64 (i + 1))), h, Ent.sel [some 0] (sr 3 rfl (.own _ rfl) <| sd 7 rfl rfl <| sd 8 rfl rfl <| sd 9 rfl rfl <| sn) (.cons rfl (roM D54) <| .nil) rfl rfl⟩
  ·
   refine T_exit ?_
   rw [lx h] at ho1
   replace h := ho1
   exact ⟨out2, h, Ent.sel [some 0] (sr 3 rfl (.own _ rfl) <| sn) (.cons rfl (roM D54) <| .nil) rfl rfl⟩
 ·
  obtain ⟨out, rfl⟩ : ∃ x, x = j := ⟨_, rfl⟩
  replace h := t1i h
  refine t1T ?_
  refine T_seq (T_reg ?_)
  refine R_q _ rfl (v_move (ov rfl)) ?_
  refine R_q _ rfl (v_assign (ov rfl)) ?_
  refine R_nil ?_
  obtain rfl := rt (v := out) h
  refine T_ret (retq ?_ (.one (.tmp rfl (View.ownM rfl rfl D54))))
  rfl

theorem ok_layout_numberOf_1 {v : Int} {r : Int} (h : layout_numberOf_1 v = some r) :
  CSpec Try.prog gl0 104 [.int .i64 v] (.int .i64 r) := by
 unfold layout_numberOf_1 at h
 replace h := bnd0 h
 refine spec_of (by kernel_rfl) Try.func104 rfl rfl ?_
 intro w0 A
 refine T_seq (T_reg ?_)
 refine R_q _ rfl (v_assign (ov rfl)) ?_
 refine R_nil ?_
 refine T_seq (T_reg ?_)
 refine R_q _ rfl (v_move (ov rfl)) ?_
 refine R_q _ rfl (v_assign (ov rfl)) ?_
 refine R_nil ?_
 obtain rfl := rt (v := v) h
 refine T_ret (retq ?_ (.one (.tmp rfl (Dat.view (.b rfl)))))
 rfl

theorem ok_layout_numberOf_2_1 {raw : Int} {c0 : Int} {r : Int × Bool} (h : layout_numberOf_2_1 raw c0 = some r) :
  CSpec Try.prog gl0 106 [.int .i64 raw, .rp [.int .i64 c0] 0] (.tuple [.int .i64 r.1, .bool r.2]) := by
 unfold layout_numberOf_2_1 at h
 replace h := bnd0 h
 refine spec_of (by kernel_rfl) Try.func106 rfl rfl ?_
 intro w0 A
 refine T_seq (T_reg ?_)
 refine R_q _ rfl (v_assign (ov rfl)) ?_
 refine R_q _ rfl (v_assign (ov rfl)) ?_
 refine R_nil ?_
 refine T_seq (T_draw (cw := md0) (by kernel_rfl) ?_)
 refine D_q0 0 _ rfl (by kernel_rfl) rfl rfl (v_move (ov rfl)) ?_
 refine D_q0 1 _ rfl (by kernel_rfl) rfl rfl (v_move (ov rfl)) ?_
 refine D_q0 2 _ rfl (by kernel_rfl) rfl rfl (v_loadS_r (ov rfl) tS3 rfl) ?_
 refine D_q0 3 _ rfl (by kernel_rfl) rfl rfl (v_leq (ov rfl) (ov rfl)) ?_
 refine D_q0 4 _ rfl (by kernel_rfl) rfl rfl (v_assign (ov rfl)) ?_
 refine D_q0 5 _ rfl (by kernel_rfl) rfl rfl (v_assign (ov rfl)) ?_
 refine D_done (by kernel_rfl) ?_
 obtain rfl := rt (v := (raw, (decide (raw ≤ c0)))) h
 refine T_ret (retq ?_ (.two (.tmp rfl (Dat.view (.b rfl))) (.tmp rfl (Dat.view (.b rfl)))))
 rfl

theorem ok_layout_numberOf_2 {high : Int} {r : layout_number} (h : layout_numberOf_2 high = some r) :
  CSpec Try.prog gl0 105 [.int .i64 high, .rp [.fn 104 []] 0] (.agg [.int .i64 r.low, .int .i64 r.high, .fn r.encode.f r.encode.c, .fn r.decode.f r.decode.c]) := by
 unfold layout_numberOf_2 at h
 replace h := bnd0 h
 refine spec_of (by kernel_rfl) Try.func105 rfl rfl ?_
 intro w0 A
 refine T_seq (T_reg ?_)
 refine R_q _ rfl (v_boxD (cvs (ov rfl) (cell1_b rfl)) rfl tZ_3 rfl) ?_
 refine R_w _ _ rfl (w_alloc (row := [_, _, _, _]) 0 rfl tZ102 rfl tZ_102) ?_
 refine R_nil ?_
 refine T_keep (kc 1 rfl <| kc 2 rfl <| kc 3 rfl <| kn) rfl ?_
 refine T_seq (T_reg ?_)
 refine R_q _ rfl (v_loadS_r (ov rfl) tS3 rfl) ?_
 refine R_q _ rfl (v_loadS_r (ov rfl) tS99 rfl) ?_
 refine R_q _ rfl (v_makeFunc (.cons (ov rfl) <| .nil)) ?_
 refine R_q _ rfl (v_build (ys := [_, _, _, _]) tPL102 tHA102 tZ102 (.cons (cvs (ov rfl) (cell1_b rfl)) <| .cons (cvs (ov rfl) (cell1_b rfl)) <| .cons (cvs (ov rfl) (cell1_b rfl)) <| .cons (cvs (ov rfl) (cell1_b rfl)) <| .nil) rfl) ?_
 refine R_w _ _ rfl (w_store (ov rfl) (ov rfl) (cells_agg tA102 rfl) rfl rfl rfl (Nat.le_of_ble_eq_true rfl) (cell1_all rfl) rfl) ?_
 refine R_nil ?_
 obtain rfl := rt (v := (layout_number.mk 0 high (Fv.mk (fun z0 => layout_numberOf_1 z0) 104 []) (Fv.mk (fun z0 => layout_numberOf_2_1 z0 high) 106 [.rp [.int .i64 high] 0]))) h
 refine T_ret (retq ?_ (.one (.agg rfl rfl rfl rfl tA102 rfl rfl (.cons (Dat.view (.b rfl)) <| .cons (Dat.view (.b rfl)) <| .cons (Dat.view (.fn)) <| .cons (Dat.view (.fnC (.cons (.b rfl) <| .nil))) <| .nil))))
 rfl

theorem fok_layout_numberOf_2 {high : Int} {r : layout_number} (h : layout_numberOf_2 high = some r) : FOK99 r.encode ∧ FOK100 r.decode := by
 have key : AllS (fun r => FOK99 r.encode ∧ FOK100 r.decode) (layout_numberOf_2 high) := by
  unfold layout_numberOf_2
  repeat' (first | exact as_none | with_reducible refine as_ite ?_ ?_ | with_reducible refine as_bind fun _ _ => ?_ | with_reducible refine as_t1 ?_)
  all_goals first | exact as_some ⟨⟨rfl, fun z0 _ hz => ok_layout_numberOf_1 hz⟩, ⟨rfl, fun z0 _ hz => ok_layout_numberOf_2_1 hz⟩⟩
 exact key r h

theorem ok_layout_numberOf_3 {c1 : Int} {r : layout_number} (h : layout_numberOf_3 c1 = some r) :
  CSpec Try.prog gl0 107 [.rp [.fn 105 [.rp [.fn 104 []] 0]] 0, .rp [.int .i64 c1] 0] (.agg [.int .i64 r.low, .int .i64 r.high, .fn r.encode.f r.encode.c, .fn r.decode.f r.decode.c]) := by
 unfold layout_numberOf_3 at h
 replace h := bnd0 h
 refine spec_of (by kernel_rfl) Try.func107 rfl rfl ?_
 intro w0 A
 refine T_seq (T_reg ?_)
 refine R_w _ _ rfl (w_alloc (row := [_, _, _, _]) 0 rfl tZ102 rfl tZ_102) ?_
 refine R_nil ?_
 refine T_seq (T_reg ?_)
 refine R_q _ rfl (v_loadS_r (ov rfl) tS147 rfl) ?_
 refine R_q _ rfl (v_loadS_r (ov rfl) tS3 rfl) ?_
 refine R_q _ rfl (v_mul (ov rfl) (ov rfl) rfl) ?_
 refine R_q _ rfl (v_sub (ov rfl) (ov rfl) rfl) ?_
 obtain ⟨y, h_y, h⟩ := bnd h
 refine R_q _ rfl (v_callC (ov rfl) rfl (ok_layout_numberOf_2 h_y) (.cons (ov rfl) (.b rfl) <| .nil)) ?_
 refine R_w _ _ rfl (w_store (ov rfl) (ov rfl) (cells_agg tA102 rfl) rfl rfl rfl (Nat.le_of_ble_eq_true rfl) (cell1_all rfl) rfl) ?_
 refine R_nil ?_
 obtain rfl := rt (v := y) h
 refine T_ret (retq ?_ (.one (.agg rfl rfl rfl rfl tA102 rfl rfl (.cons (Dat.view (.b rfl)) <| .cons (Dat.view (.b rfl)) <| .cons (Dat.view (Dat.fnC (.refl fun x hx => .b (List.all_eq_true.1 (((fok_layout_numberOf_2 h_y).1)).1 x hx)))) <| .cons (Dat.view (Dat.fnC (.refl fun x hx => .b (List.all_eq_true.1 (((fok_layout_numberOf_2 h_y).2)).1 x hx)))) <| .nil))))
 rfl

theorem fok_layout_numberOf_3 {c1 : Int} {r : layout_number} (h : layout_numberOf_3 c1 = some r) : FOK99 r.encode ∧ FOK100 r.decode := by
 have key : AllS (fun r => FOK99 r.encode ∧ FOK100 r.decode) (layout_numberOf_3 c1) := by
  unfold layout_numberOf_3
  repeat' (first | exact as_none | with_reducible refine as_ite ?_ ?_ | with_reducible refine as_bind fun _ _ => ?_ | with_reducible refine as_t1 ?_)
  all_goals first | exact as_some ⟨((fok_layout_numberOf_2 (by assumption)).1), ((fok_layout_numberOf_2 (by assumption)).2)⟩
 exact key r h

theorem ok_layout_numberOf_4  {r : layout_number} (h : layout_numberOf_4  = some r) :
  CSpec Try.prog gl0 108 [.rp [.fn 105 [.rp [.fn 104 []] 0]] 0] (.agg [.int .i64 r.low, .int .i64 r.high, .fn r.encode.f r.encode.c, .fn r.decode.f r.decode.c]) := by
 unfold layout_numberOf_4 at h
 replace h := bnd0 h
 refine spec_of (by kernel_rfl) Try.func108 rfl rfl ?_
 intro w0 A
 refine T_seq (T_reg ?_)
 refine R_w _ _ rfl (w_alloc (row := [_, _, _, _]) 0 rfl tZ102 rfl tZ_102) ?_
 refine R_nil ?_
 refine T_seq (T_reg ?_)
 refine R_q _ rfl (v_loadS_r (ov rfl) tS147 rfl) ?_
 obtain ⟨y, h_y, h⟩ := bnd h
 refine R_q _ rfl (v_callC (ov rfl) rfl (ok_layout_numberOf_2 h_y) (.cons (ov rfl) (.b rfl) <| .nil)) ?_
 refine R_w _ _ rfl (w_store (ov rfl) (ov rfl) (cells_agg tA102 rfl) rfl rfl rfl (Nat.le_of_ble_eq_true rfl) (cell1_all rfl) rfl) ?_
 refine R_nil ?_
 obtain rfl := rt (v := y) h
 refine T_ret (retq ?_ (.one (.agg rfl rfl rfl rfl tA102 rfl rfl (.cons (Dat.view (.b rfl)) <| .cons (Dat.view (.b rfl)) <| .cons (Dat.view (Dat.fnC (.refl fun x hx => .b (List.all_eq_true.1 (((fok_layout_numberOf_2 h_y).1)).1 x hx)))) <| .cons (Dat.view (Dat.fnC (.refl fun x hx => .b (List.all_eq_true.1 (((fok_layout_numberOf_2 h_y).2)).1 x hx)))) <| .nil))))
 rfl

theorem fok_layout_numberOf_4  {r : layout_number} (h : layout_numberOf_4  = some r) : FOK99 r.encode ∧ FOK100 r.decode := by
 have key : AllS (fun r => FOK99 r.encode ∧ FOK100 r.decode) (layout_numberOf_4 ) := by
  unfold layout_numberOf_4
  repeat' (first | exact as_none | with_reducible refine as_ite ?_ ?_ | with_reducible refine as_bind fun _ _ => ?_ | with_reducible refine as_t1 ?_)
  all_goals first | exact as_some ⟨((fok_layout_numberOf_2 (by assumption)).1), ((fok_layout_numberOf_2 (by assumption)).2)⟩
 exact key r h

theorem ok_layout_numberOf_5 {c1 : api_Param} {r : layout_number} (h : layout_numberOf_5 c1 = some r) :
  CSpec Try.prog gl0 109 [.rp [.fn 105 [.rp [.fn 104 []] 0]] 0, .rp [.str c1.Name, .int .i64 c1.Kind, .sl 109 (List.map R109 c1.Parts), .int .i64 c1.First, .int .i64 c1.Every, .int .i64 c1.Times, .int .i64 c1.Step, .sl 9 (List.map R9 c1.Names)] 0] (.agg [.int .i64 r.low, .int .i64 r.high, .fn r.encode.f r.encode.c, .fn r.decode.f r.decode.c]) := by
 unfold layout_numberOf_5 at h
 replace h := bnd0 h
 refine spec_of (by kernel_rfl) Try.func109 rfl rfl ?_
 intro w0 A
 refine T_seq (T_reg ?_)
 refine R_w _ _ rfl (w_alloc (row := [_, _, _, _]) 0 rfl tZ102 rfl tZ_102) ?_
 refine R_nil ?_
 refine T_seq (T_reg ?_)
 refine R_q _ rfl (v_loadS_r (ov rfl) tS147 rfl) ?_
 refine R_q _ rfl (v_fieldR (ov rfl) tF43_7) ?_
 refine R_q _ rfl (v_loadS_r (ov rfl) tS41 rfl) ?_
 refine R_q _ rfl (v_len (slv_sl (ov rfl) tZ_9) tL41 (len_map _ _)) ?_
 refine R_q _ rfl (v_sub (ov rfl) (ov rfl) rfl) ?_
 obtain ⟨y, h_y, h⟩ := bnd h
 refine R_q _ rfl (v_callC (ov rfl) rfl (ok_layout_numberOf_2 h_y) (.cons (ov rfl) (.b rfl) <| .nil)) ?_
 refine R_w _ _ rfl (w_store (ov rfl) (ov rfl) (cells_agg tA102 rfl) rfl rfl rfl (Nat.le_of_ble_eq_true rfl) (cell1_all rfl) rfl) ?_
 refine R_nil ?_
 obtain rfl := rt (v := y) h
 refine T_ret (retq ?_ (.one (.agg rfl rfl rfl rfl tA102 rfl rfl (.cons (Dat.view (.b rfl)) <| .cons (Dat.view (.b rfl)) <| .cons (Dat.view (Dat.fnC (.refl fun x hx => .b (List.all_eq_true.1 (((fok_layout_numberOf_2 h_y).1)).1 x hx)))) <| .cons (Dat.view (Dat.fnC (.refl fun x hx => .b (List.all_eq_true.1 (((fok_layout_numberOf_2 h_y).2)).1 x hx)))) <| .nil))))
 rfl

theorem fok_layout_numberOf_5 {c1 : api_Param} {r : layout_number} (h : layout_numberOf_5 c1 = some r) : FOK99 r.encode ∧ FOK100 r.decode := by
 have key : AllS (fun r => FOK99 r.encode ∧ FOK100 r.decode) (layout_numberOf_5 c1) := by
  unfold layout_numberOf_5
  repeat' (first | exact as_none | with_reducible refine as_ite ?_ ?_ | with_reducible refine as_bind fun _ _ => ?_ | with_reducible refine as_t1 ?_)
  all_goals first | exact as_some ⟨((fok_layout_numberOf_2 (by assumption)).1), ((fok_layout_numberOf_2 (by assumption)).2)⟩
 exact key r h

theorem ok_layout_numberOf_6_1 {v : Int} {c0 : Int} {r : Int} (h : layout_numberOf_6_1 v c0 = some r) :
  CSpec Try.prog gl0 111 [.int .i64 v, .rp [.int .i64 c0] 0] (.int .i64 r) := by
 unfold layout_numberOf_6_1 at h
 replace h := bnd0 h
 refine spec_of (by kernel_rfl) Try.func111 rfl rfl ?_
 intro w0 A
 refine T_seq (T_reg ?_)
 refine R_q _ rfl (v_assign (ov rfl)) ?_
 refine R_nil ?_
 refine T_seq (T_reg ?_)
 refine R_q _ rfl (v_move (ov rfl)) ?_
 refine R_q _ rfl (v_loadS_r (ov rfl) tS3 rfl) ?_
 refine R_q _ rfl (v_mul (ov rfl) (ov rfl) rfl) ?_
 refine R_q _ rfl (v_sub (ov rfl) (ov rfl) rfl) ?_
 refine R_q _ rfl (v_and_ (ov rfl) (ov rfl)) ?_
 refine R_q _ rfl (v_assign (ov rfl)) ?_
 refine R_nil ?_
 obtain rfl := rt (v := (band .i64 v (i64 ((i64 (2 * c0)) - 1)))) h
 refine T_ret (retq ?_ (.one (.tmp rfl (Dat.view (.b rfl)))))
 rfl

theorem ok_layout_numberOf_6_2 {raw : Int} {c0 : Int} {r : Int × Bool} (h : layout_numberOf_6_2 raw c0 = some r) :
  CSpec Try.prog gl0 112 [.int .i64 raw, .rp [.int .i64 c0] 0] (.tuple [.int .i64 r.1, .bool r.2]) := by
 unfold layout_numberOf_6_2 at h
 replace h := bnd0 h
 refine spec_of (by kernel_rfl) Try.func112 rfl rfl ?_
 intro w0 A
 refine T_seq (T_reg ?_)
 refine R_q _ rfl (v_assign (ov rfl)) ?_
 refine R_q _ rfl (v_assign (ov rfl)) ?_
 refine R_nil ?_
 refine T_seq ?_
 refine T_keep (kc 0 rfl <| kc 1 rfl <| kn) rfl ?_
 refine T_seq (T_reg ?_)
 refine R_q _ rfl (v_move (ov rfl)) ?_
 refine R_q _ rfl (v_loadS_r (ov rfl) tS3 rfl) ?_
 refine R_q _ rfl (v_geq (ov rfl) (ov rfl)) ?_
 refine R_nil ?_
 refine T_keep (kc 0 rfl <| kc 1 rfl <| kc 7 rfl <| kn) rfl ?_
 refine T_if h rfl (fun b7 h => ?_) (fun b7 h => ?_)
 ·
  refine T_keep (kc 0 rfl <| kc 1 rfl <| kn) rfl ?_
  refine T_reg ?_
  refine R_q _ rfl (v_move (ov rfl)) ?_
  refine R_q _ rfl (v_loadS_r (ov rfl) tS3 rfl) ?_
  refine R_q _ rfl (v_mul (ov rfl) (ov rfl) rfl) ?_
  refine R_q _ rfl (v_sub (ov rfl) (ov rfl) rfl) ?_
  refine R_q _ rfl (v_assign (ov rfl)) ?_
  refine R_nil ?_
  refine T_keep (kc 0 rfl <| kn) rfl ?_
  refine T_seq (T_reg ?_)
  refine R_q _ rfl (v_move (ov rfl)) ?_
  refine R_q _ rfl (v_assign (ov rfl)) ?_
  refine R_q _ rfl (v_assign (ov rfl)) ?_
  refine R_nil ?_
  obtain rfl := rt (v := ((i64 (raw - (i64 (2 * c0)))), true)) h
  refine T_ret (retq ?_ (.two (.tmp rfl (Dat.view (.b rfl))) (.tmp rfl (Dat.view (.b rfl)))))
  rfl
 ·
  refine T_skip ?_
  refine T_keep (kc 0 rfl <| kn) rfl ?_
  refine T_seq (T_reg ?_)
  refine R_q _ rfl (v_move (ov rfl)) ?_
  refine R_q _ rfl (v_assign (ov rfl)) ?_
  refine R_q _ rfl (v_assign (ov rfl)) ?_
  refine R_nil ?_
  obtain rfl := rt (v := (raw, true)) h
  refine T_ret (retq ?_ (.two (.tmp rfl (Dat.view (.b rfl))) (.tmp rfl (Dat.view (.b rfl)))))
  rfl

theorem ok_layout_numberOf_6 {c0 : Int} {r : layout_number} (h : layout_numberOf_6 c0 = some r) :
  CSpec Try.prog gl0 110 [.rp [.int .i64 c0] 0] (.agg [.int .i64 r.low, .int .i64 r.high, .fn r.encode.f r.encode.c, .fn r.decode.f r.decode.c]) := by
 unfold layout_numberOf_6 at h
 replace h := bnd0 h
 refine spec_of (by kernel_rfl) Try.func110 rfl rfl ?_
 intro w0 A
 refine T_seq (T_reg ?_)
 refine R_w _ _ rfl (w_alloc (row := [_, _, _, _]) 0 rfl tZ102 rfl tZ_102) ?_
 refine R_nil ?_
 refine T_seq (T_reg ?_)
 refine R_q _ rfl (v_loadS_r (ov rfl) tS3 rfl) ?_
 refine R_q _ rfl (v_neg (ov rfl) rfl) ?_
 refine R_q _ rfl (v_loadS_r (ov rfl) tS3 rfl) ?_
 refine R_q _ rfl (v_sub (ov rfl) (ov rfl) rfl) ?_
 refine R_q _ rfl (v_makeFunc (.cons (ov rfl) <| .nil)) ?_
 refine R_q _ rfl (v_makeFunc (.cons (ov rfl) <| .nil)) ?_
 refine R_q _ rfl (v_build (ys := [_, _, _, _]) tPL102 tHA102 tZ102 (.cons (cvs (ov rfl) (cell1_b rfl)) <| .cons (cvs (ov rfl) (cell1_b rfl)) <| .cons (cvs (ov rfl) (cell1_b rfl)) <| .cons (cvs (ov rfl) (cell1_b rfl)) <| .nil) rfl) ?_
 refine R_w _ _ rfl (w_store (ov rfl) (ov rfl) (cells_agg tA102 rfl) rfl rfl rfl (Nat.le_of_ble_eq_true rfl) (cell1_all rfl) rfl) ?_
 refine R_nil ?_
 obtain rfl := rt (v := (layout_number.mk (i64 (-c0)) (i64 (c0 - 1)) (Fv.mk (fun z0 => layout_numberOf_6_1 z0 c0) 111 [.rp [.int .i64 c0] 0]) (Fv.mk (fun z0 => layout_numberOf_6_2 z0 c0) 112 [.rp [.int .i64 c0] 0]))) h
 refine T_ret (retq ?_ (.one (.agg rfl rfl rfl rfl tA102 rfl rfl (.cons (Dat.view (.b rfl)) <| .cons (Dat.view (.b rfl)) <| .cons (Dat.view (.fnC (.cons (.b rfl) <| .nil))) <| .cons (Dat.view (.fnC (.cons (.b rfl) <| .nil))) <| .nil))))
 rfl

theorem fok_layout_numberOf_6 {c0 : Int} {r : layout_number} (h : layout_numberOf_6 c0 = some r) : FOK99 r.encode ∧ FOK100 r.decode := by
 have key : AllS (fun r => FOK99 r.encode ∧ FOK100 r.decode) (layout_numberOf_6 c0) := by
  unfold layout_numberOf_6
  repeat' (first | exact as_none | with_reducible refine as_ite ?_ ?_ | with_reducible refine as_bind fun _ _ => ?_ | with_reducible refine as_t1 ?_)
  all_goals first | exact as_some ⟨⟨rfl, fun z0 _ hz => ok_layout_numberOf_6_1 hz⟩, ⟨rfl, fun z0 _ hz => ok_layout_numberOf_6_2 hz⟩⟩
 exact key r h

theorem ok_layout_numberOf_7_1 {v : Int} {c0 : Int} {r : Int} (h : layout_numberOf_7_1 v c0 = some r) :
  CSpec Try.prog gl0 114 [.int .i64 v, .rp [.int .i64 c0] 0] (.int .i64 r) := by
 unfold layout_numberOf_7_1 at h
 replace h := bnd0 h
 refine spec_of (by kernel_rfl) Try.func114 rfl rfl ?_
 intro w0 A
 refine T_seq (T_reg ?_)
 refine R_q _ rfl (v_assign (ov rfl)) ?_
 refine R_nil ?_
 refine T_seq ?_
 refine T_keep (kc 0 rfl <| kc 1 rfl <| kn) rfl ?_
 refine T_seq (T_reg ?_)
 refine R_q _ rfl (v_move (ov rfl)) ?_
 refine R_q _ rfl (v_lss (ov rfl) (ov rfl)) ?_
 refine R_nil ?_
 refine T_keep (kc 0 rfl <| kc 1 rfl <| kc 5 rfl <| kn) rfl ?_
 refine T_if h rfl (fun b5 h => ?_) (fun b5 h => ?_)
 ·
  refine T_keep (kc 0 rfl <| kc 1 rfl <| kn) rfl ?_
  refine T_seq (T_reg ?_)
  refine R_q _ rfl (v_loadS_r (ov rfl) tS3 rfl) ?_
  refine R_q _ rfl (v_move (ov rfl)) ?_
  refine R_q _ rfl (v_sub (ov rfl) (ov rfl) rfl) ?_
  refine R_q _ rfl (v_assign (ov rfl)) ?_
  refine R_nil ?_
  obtain rfl := rt (v := (i64 (c0 - v))) h
  refine T_ret (retq ?_ (.one (.tmp rfl (Dat.view (.b rfl)))))
  rfl
 ·
  refine T_skip ?_
  refine T_keep (kc 0 rfl <| kn) rfl ?_
  refine T_seq (T_reg ?_)
  refine R_q _ rfl (v_move (ov rfl)) ?_
  refine R_q _ rfl (v_assign (ov rfl)) ?_
  refine R_nil ?_
  obtain rfl := rt (v := v) h
  refine T_ret (retq ?_ (.one (.tmp rfl (Dat.view (.b rfl)))))
  rfl

theorem ok_layout_numberOf_7_2 {raw : Int} {c0 : Int} {r : Int × Bool} (h : layout_numberOf_7_2 raw c0 = some r) :
  CSpec Try.prog gl0 115 [.int .i64 raw, .rp [.int .i64 c0] 0] (.tuple [.int .i64 r.1, .bool r.2]) := by
 unfold layout_numberOf_7_2 at h
 replace h := bnd0 h
 refine spec_of (by kernel_rfl) Try.func115 rfl rfl ?_
 intro w0 A
 refine T_seq (T_reg ?_)
 refine R_q _ rfl (v_assign (ov rfl)) ?_
 refine R_q _ rfl (v_assign (ov rfl)) ?_
 refine R_nil ?_
 refine T_seq ?_
 refine T_keep (kc 0 rfl <| kc 1 rfl <| kn) rfl ?_
 refine T_seq (T_reg ?_)
 refine R_q _ rfl (v_move (ov rfl)) ?_
 refine R_q _ rfl (v_loadS_r (ov rfl) tS3 rfl) ?_
 refine R_q _ rfl (v_geq (ov rfl) (ov rfl)) ?_
 refine R_nil ?_
 refine T_keep (kc 0 rfl <| kc 1 rfl <| kc 7 rfl <| kn) rfl ?_
 refine T_if h rfl (fun b7 h => ?_) (fun b7 h => ?_)
 ·
  refine T_keep (kc 0 rfl <| kc 1 rfl <| kn) rfl ?_
  refine T_seq (T_draw (cw := md0) (by kernel_rfl) ?_)
  refine D_q0 0 _ rfl (by kernel_rfl) rfl rfl (v_loadS_r (ov rfl) tS3 rfl) ?_
  refine D_q0 1 _ rfl (by kernel_rfl) rfl rfl (v_move (ov rfl)) ?_
  refine D_q0 2 _ rfl (by kernel_rfl) rfl rfl (v_sub (ov rfl) (ov rfl) rfl) ?_
  refine D_q0 3 _ rfl (by kernel_rfl) rfl rfl (v_move (ov rfl)) ?_
  refine D_q0 4 _ rfl (by kernel_rfl) rfl rfl (v_loadS_r (ov rfl) tS3 rfl) ?_
  refine D_q0 5 _ rfl (by kernel_rfl) rfl rfl (v_gtr (ov rfl) (ov rfl)) ?_
  refine D_q0 6 _ rfl (by kernel_rfl) rfl rfl (v_assign (ov rfl)) ?_
  refine D_q0 7 _ rfl (by kernel_rfl) rfl rfl (v_assign (ov rfl)) ?_
  refine D_done (by kernel_rfl) ?_
  obtain rfl := rt (v := ((i64 (c0 - raw)), (decide (c0 < raw)))) h
  refine T_ret (retq ?_ (.two (.tmp rfl (Dat.view (.b rfl))) (.tmp rfl (Dat.view (.b rfl)))))
  rfl
 ·
  refine T_skip ?_
  refine T_keep (kc 0 rfl <| kn) rfl ?_
  refine T_seq (T_reg ?_)
  refine R_q _ rfl (v_move (ov rfl)) ?_
  refine R_q _ rfl (v_assign (ov rfl)) ?_
  refine R_q _ rfl (v_assign (ov rfl)) ?_
  refine R_nil ?_
  obtain rfl := rt (v := (raw, true)) h
  refine T_ret (retq ?_ (.two (.tmp rfl (Dat.view (.b rfl))) (.tmp rfl (Dat.view (.b rfl)))))
  rfl

theorem ok_layout_numberOf_7 {c0 : Int} {r : layout_number} (h : layout_numberOf_7 c0 = some r) :
  CSpec Try.prog gl0 113 [.rp [.int .i64 c0] 0] (.agg [.int .i64 r.low, .int .i64 r.high, .fn r.encode.f r.encode.c, .fn r.decode.f r.decode.c]) := by
 unfold layout_numberOf_7 at h
 replace h := bnd0 h
 refine spec_of (by kernel_rfl) Try.func113 rfl rfl ?_
 intro w0 A
 refine T_seq (T_reg ?_)
 refine R_w _ _ rfl (w_alloc (row := [_, _, _, _]) 0 rfl tZ102 rfl tZ_102) ?_
 refine R_nil ?_
 refine T_seq (T_reg ?_)
 refine R_q _ rfl (v_loadS_r (ov rfl) tS3 rfl) ?_
 refine R_q _ rfl (v_sub (ov rfl) (ov rfl) rfl) ?_
 refine R_q _ rfl (v_loadS_r (ov rfl) tS3 rfl) ?_
 refine R_q _ rfl (v_sub (ov rfl) (ov rfl) rfl) ?_
 refine R_q _ rfl (v_makeFunc (.cons (ov rfl) <| .nil)) ?_
 refine R_q _ rfl (v_makeFunc (.cons (ov rfl) <| .nil)) ?_
 refine R_q _ rfl (v_build (ys := [_, _, _, _]) tPL102 tHA102 tZ102 (.cons (cvs (ov rfl) (cell1_b rfl)) <| .cons (cvs (ov rfl) (cell1_b rfl)) <| .cons (cvs (ov rfl) (cell1_b rfl)) <| .cons (cvs (ov rfl) (cell1_b rfl)) <| .nil) rfl) ?_
 refine R_w _ _ rfl (w_store (ov rfl) (ov rfl) (cells_agg tA102 rfl) rfl rfl rfl (Nat.le_of_ble_eq_true rfl) (cell1_all rfl) rfl) ?_
 refine R_nil ?_
 obtain rfl := rt (v := (layout_number.mk (i64 (1 - c0)) (i64 (c0 - 1)) (Fv.mk (fun z0 => layout_numberOf_7_1 z0 c0) 114 [.rp [.int .i64 c0] 0]) (Fv.mk (fun z0 => layout_numberOf_7_2 z0 c0) 115 [.rp [.int .i64 c0] 0]))) h
 refine T_ret (retq ?_ (.one (.agg rfl rfl rfl rfl tA102 rfl rfl (.cons (Dat.view (.b rfl)) <| .cons (Dat.view (.b rfl)) <| .cons (Dat.view (.fnC (.cons (.b rfl) <| .nil))) <| .cons (Dat.view (.fnC (.cons (.b rfl) <| .nil))) <| .nil))))
 rfl

theorem fok_layout_numberOf_7 {c0 : Int} {r : layout_number} (h : layout_numberOf_7 c0 = some r) : FOK99 r.encode ∧ FOK100 r.decode := by
 have key : AllS (fun r => FOK99 r.encode ∧ FOK100 r.decode) (layout_numberOf_7 c0) := by
  unfold layout_numberOf_7
  repeat' (first | exact as_none | with_reducible refine as_ite ?_ ?_ | with_reducible refine as_bind fun _ _ => ?_ | with_reducible refine as_t1 ?_)
  all_goals first | exact as_some ⟨⟨rfl, fun z0 _ hz => ok_layout_numberOf_7_1 hz⟩, ⟨rfl, fun z0 _ hz => ok_layout_numberOf_7_2 hz⟩⟩
 exact key r h

theorem ok_layout_numberOf_8_1 {v : Int} {r : Int} (h : layout_numberOf_8_1 v = some r) :
  CSpec Try.prog gl0 117 [.int .i64 v] (.int .i64 r) := by
 unfold layout_numberOf_8_1 at h
 replace h := bnd0 h
 refine spec_of (by kernel_rfl) Try.func117 rfl rfl ?_
 intro w0 A
 refine T_seq (T_reg ?_)
 refine R_q _ rfl (v_assign (ov rfl)) ?_
 refine R_nil ?_
 refine T_keep (kc 0 rfl <| kn) rfl ?_
 refine T_seq (T_reg ?_)
 refine R_q _ rfl (v_assign (ov rfl)) ?_
 refine R_nil ?_
 refine T_joinG id (t1 fun raw => ⟨[(3, .int .i64 raw)], []⟩) h (fun h => ?_) (fun j h => ?_)
 ·
  refine T_seq (T_reg ?_)
  refine R_q _ rfl (v_assign (ov rfl)) ?_
  refine R_nil ?_
  refine T_block ?_
  obtain ⟨r1, hl1, ho1⟩ := bndL h
  refine T_loopG _ (t3 fun v2 raw2 shift => ⟨[(0, .int .i64 v2), (3, .int .i64 raw2), (4, .int .i64 shift)], []⟩) _ hl1 (Ent.sel [] (sd 0 rfl rfl <| sd 3 rfl rfl <| sd 4 rfl rfl <| sn) (.nil) rfl rfl) (fun n1 s1 h => ?_)
  obtain ⟨v2, raw2, shift⟩ := s1
  replace h := t3i h
  refine t3T ?_
  unfold layout_numberOf_8_1_L1 at h
  refine T_seq ?_
  refine T_seq (T_reg ?_)
  refine R_q _ rfl (v_move (ov rfl)) ?_
  refine R_q _ rfl (v_gtr (ov rfl) (ov rfl)) ?_
  refine R_nil ?_
  refine T_keep (kc 0 rfl <| kc 3 rfl <| kc 4 rfl <| kc 6 rfl <| kn) rfl ?_
  refine T_if h rfl (fun b6 h => ?_) (fun b6 h => ?_)
  ·
   refine T_skip ?_
   refine T_seq ?_
   refine T_block ?_
   refine T_keep (kc 0 rfl <| kc 3 rfl <| kc 4 rfl <| kn) rfl ?_
   refine T_seq (T_reg ?_)
   refine R_q _ rfl (v_move (ov rfl)) ?_
   refine R_q _ rfl (v_move (ov rfl)) ?_
   obtain ⟨q, h_q, h⟩ := bnd h
   refine R_q _ rfl (v_remG (ov rfl) (ov rfl) h_q) ?_
   refine R_q _ rfl (v_move (ov rfl)) ?_
   obtain ⟨q2, h_q2, h⟩ := bnd h
   refine R_q _ rfl (v_shlG (ov rfl) (ov rfl) h_q2) ?_
   refine R_q _ rfl (v_or_ (ov rfl) (ov rfl)) ?_
   refine R_q _ rfl (v_assign (ov rfl)) ?_
   refine R_nil ?_
   refine T_keep (kc 0 rfl <| kc 3 rfl <| kc 4 rfl <| kn) rfl ?_
   refine T_reg ?_
   refine R_q _ rfl (v_move (ov rfl)) ?_
   obtain ⟨q3, h_q3, h⟩ := bnd h
   refine R_q _ rfl (v_quoG (ov rfl) (ov rfl) h_q3) ?_
   refine R_q _ rfl (v_assign (ov rfl)) ?_
   refine R_nil ?_
   refine T_keep (kc 0 rfl <| kc 3 rfl <| kc 4 rfl <| kn) rfl ?_
   refine T_reg ?_
   refine R_q _ rfl (v_move (ov rfl)) ?_
   refine R_q _ rfl (v_add (ov rfl) (ov rfl) rfl) ?_
   refine R_q _ rfl (v_assign (ov rfl)) ?_
   refine R_nil ?_
   exact ⟨(q3, (bor .i64 raw2 q2), (i64 (shift + 4))), h, Ent.sel [] (sd 0 rfl rfl <| sd 3 rfl rfl <| sd 4 rfl rfl <| sn) (.nil) rfl rfl⟩
  ·
   refine T_exit ?_
   rw [lx h] at ho1
   replace h := ho1
   exact ⟨raw2, h, Ent.sel [] (sd 3 rfl rfl <| sn) (.nil) rfl rfl⟩
 ·
  obtain ⟨raw, rfl⟩ : ∃ x, x = j := ⟨_, rfl⟩
  replace h := t1i h
  refine t1T ?_
  refine T_seq (T_reg ?_)
  refine R_q _ rfl (v_move (ov rfl)) ?_
  refine R_q _ rfl (v_assign (ov rfl)) ?_
  refine R_nil ?_
  obtain rfl := rt (v := raw) h
  refine T_ret (retq ?_ (.one (.tmp rfl (Dat.view (.b rfl)))))
  rfl

theorem ok_layout_decimal {raw : Int} {r : Int × Bool} (h : layout_decimal raw = some r) :
  CSpec Try.prog gl0 118 [.int .i64 raw] (.tuple [.int .i64 r.1, .bool r.2]) := by
 unfold layout_decimal at h
 replace h := bnd0 h
 refine spec_of (by kernel_rfl) Try.func118 rfl rfl ?_
 intro w0 A
 refine T_seq (T_reg ?_)
 refine R_q _ rfl (v_assign (ov rfl)) ?_
 refine R_q _ rfl (v_assign (ov rfl)) ?_
 refine R_nil ?_
 refine T_keep (kc 0 rfl <| kn) rfl ?_
 refine T_seq (T_reg ?_)
 refine R_q _ rfl (v_assign (ov rfl)) ?_
 refine R_q _ rfl (v_assign (ov rfl)) ?_
 refine R_nil ?_
 refine T_joinG id (t2 fun v ok => ⟨[(4, .int .i64 v), (5, .bool ok)], []⟩) h (fun h => ?_) (fun j h => ?_)
 ·
  refine T_seq (T_reg ?_)
  refine R_q _ rfl (v_assign (ov rfl)) ?_
  refine R_nil ?_
  refine T_block ?_
  obtain ⟨r1, hl1, ho1⟩ := bndL h
  refine T_loopG _ (t3 fun v2 ok2 shift => ⟨[(0, .int .i64 raw), (4, .int .i64 v2), (5, .bool ok2), (6, .int .i64 shift)], []⟩) _ hl1 (Ent.sel [] (sd 0 rfl rfl <| sd 4 rfl rfl <| sd 5 rfl rfl <| sd 6 rfl rfl <| sn) (.nil) rfl rfl) (fun n1 s1 h => ?_)
  obtain ⟨v2, ok2, shift⟩ := s1
  replace h := t3i h
  refine t3T ?_
  unfold layout_decimal_L1 at h
  refine T_seq ?_
  refine T_seq (T_reg ?_)
  refine R_q _ rfl (v_move (ov rfl)) ?_
  refine R_q _ rfl (v_geq (ov rfl) (ov rfl)) ?_
  refine R_nil ?_
  refine T_keep (kc 0 rfl <| kc 4 rfl <| kc 5 rfl <| kc 6 rfl <| kc 9 rfl <| kn) rfl ?_
  refine T_if h rfl (fun b9 h => ?_) (fun b9 h => ?_)
  ·
   refine T_skip ?_
   refine T_seq ?_
   refine T_block ?_
   refine T_keep (kc 0 rfl <| kc 4 rfl <| kc 5 rfl <| kc 6 rfl <| kn) rfl ?_
   refine T_seq (T_reg ?_)
   refine R_q _ rfl (v_move (ov rfl)) ?_
   refine R_q _ rfl (v_move (ov rfl)) ?_
   obtain ⟨q, h_q, h⟩ := bnd h
   refine R_q _ rfl (v_shrG (ov rfl) (ov rfl) h_q) ?_
   refine R_q _ rfl (v_and_ (ov rfl) (ov rfl)) ?_
   refine R_q _ rfl (v_assign (ov rfl)) ?_
   refine R_nil ?_
   refine T_keep (kc 0 rfl <| kc 4 rfl <| kc 5 rfl <| kc 6 rfl <| kc 7 rfl <| kn) rfl ?_
   refine T_reg ?_
   refine R_q _ rfl (v_move (ov rfl)) ?_
   refine R_q _ rfl (v_mul (ov rfl) (ov rfl) rfl) ?_
   refine R_q _ rfl (v_move (ov rfl)) ?_
   refine R_q _ rfl (v_add (ov rfl) (ov rfl) rfl) ?_
   refine R_q _ rfl (v_move (ov rfl)) ?_
   refine R_q _ rfl (v_move (ov rfl)) ?_
   refine R_q _ rfl (.guarded (ok2 == true) rfl rfl rfl rfl fun h => v_move (ov rfl)) ?_
   refine R_q _ rfl (.guarded (ok2 == true) rfl rfl rfl rfl fun h => v_lss (ow rfl h) (ov rfl)) ?_
   refine R_q _ rfl (v_and (ov rfl) (fun hp => ow rfl (gT hp))) ?_
   refine R_q _ rfl (v_assign (ov rfl)) ?_
   refine R_q _ rfl (v_assign (ov rfl)) ?_
   refine R_nil ?_
   refine T_keep (kc 0 rfl <| kc 4 rfl <| kc 5 rfl <| kc 6 rfl <| kn) rfl ?_
   refine T_reg ?_
   refine R_q _ rfl (v_move (ov rfl)) ?_
   refine R_q _ rfl (v_sub (ov rfl) (ov rfl) rfl) ?_
   refine R_q _ rfl (v_assign (ov rfl)) ?_
   refine R_nil ?_
   exact ⟨((i64 ((i64 (v2 * 10)) + (band .i64 q 15))), (ok2 && (decide ((band .i64 q 15) < 10))), (i64 (shift - 4))), h, Ent.sel [] (sd 0 rfl rfl <| sd 4 rfl rfl <| sd 5 rfl rfl <| sd 6 rfl rfl <| sn) (.nil) rfl rfl⟩
  ·
   refine T_exit ?_
   rw [lx h] at ho1
   replace h := ho1
   exact ⟨(v2, ok2), h, Ent.sel [] (sd 4 rfl rfl <| sd 5 rfl rfl <| sn) (.nil) rfl rfl⟩
 ·
  obtain ⟨v, ok⟩ := j
  replace h := t2i h
  refine t2T ?_
  refine T_seq (T_reg ?_)
  refine R_q _ rfl (v_move (ov rfl)) ?_
  refine R_q _ rfl (v_move (ov rfl)) ?_
  refine R_q _ rfl (v_assign (ov rfl)) ?_
  refine R_q _ rfl (v_assign (ov rfl)) ?_
  refine R_nil ?_
  obtain rfl := rt (v := (v, ok)) h
  refine T_ret (retq ?_ (.two (.tmp rfl (Dat.view (.b rfl))) (.tmp rfl (Dat.view (.b rfl)))))
  rfl

theorem ok_layout_numberOf_8 {c0 : Int} {r : layout_number} (h : layout_numberOf_8 c0 = some r) :
  CSpec Try.prog gl0 116 [.rp [.int .i64 c0] 0] (.agg [.int .i64 r.low, .int .i64 r.high, .fn r.encode.f r.encode.c, .fn r.decode.f r.decode.c]) := by
 unfold layout_numberOf_8 at h
 replace h := bnd0 h
 refine spec_of (by kernel_rfl) Try.func116 rfl rfl ?_
 intro w0 A
 refine T_seq (T_reg ?_)
 refine R_w _ _ rfl (w_alloc (row := [_, _, _, _]) 0 rfl tZ102 rfl tZ_102) ?_
 refine R_nil ?_
 refine T_seq (T_reg ?_)
 refine R_q _ rfl (v_assign (ov rfl)) ?_
 refine R_nil ?_
 refine T_joinG id (t1 fun high => ⟨[(1, .ptr 0 1 0 0), (2, .int .i64 high)], [some ⟨102, [[.int .i64 0, .int .i64 0, .lit .nilFunc, .lit .nilFunc]]⟩]⟩) h (fun h => ?_) (fun j h => ?_)
 ·
  refine T_seq (T_reg ?_)
  refine R_q _ rfl (v_loadS_r (ov rfl) tS3 rfl) ?_
  obtain ⟨q, h_q, h⟩ := bnd h
  refine R_q _ rfl (v_quoG (ov rfl) (ov rfl) h_q) ?_
  refine R_q _ rfl (v_move (ov rfl)) ?_
  refine R_nil ?_
  refine T_block ?_
  obtain ⟨r1, hl1, ho1⟩ := bndL h
  refine T_loopG _ (t2 fun high2 i => ⟨[(1, .ptr 0 1 0 0), (2, .int .i64 high2), (4, .int .i64 q), (5, .int .i64 i)], [some ⟨102, [[.int .i64 0, .int .i64 0, .lit .nilFunc, .lit .nilFunc]]⟩]⟩) _ hl1 (Ent.sel [some 0] (sr 1 rfl (.ptr _ _ _ rfl) <| sd 2 rfl rfl <| sd 4 rfl rfl <| sd 5 rfl rfl <| sn) (.cons rfl (ro1 (by exact tZ_102.symm) (rld rfl)) <| .nil) rfl rfl) (fun n1 s1 h => ?_)
  obtain ⟨high2, i⟩ := s1
  replace h := t2i h
  refine t2T ?_
  unfold layout_numberOf_8_L1 at h
  refine T_seq (T_reg ?_)
  refine R_q _ rfl (v_lss (ov rfl) (ov rfl)) ?_
  refine R_nil ?_
  refine T_seq ?_
  refine T_if h rfl (fun b6 h => ?_) (fun b6 h => ?_)
  ·
   refine T_skip ?_
   refine T_seq ?_
   refine T_block ?_
   refine T_keep (kc 1 rfl <| kc 2 rfl <| kc 4 rfl <| kc 5 rfl <| kn) rfl ?_
   refine T_reg ?_
   refine R_q _ rfl (v_move (ov rfl)) ?_
   refine R_q _ rfl (v_mul (ov rfl) (ov rfl) rfl) ?_
   refine R_q _ rfl (v_assign (ov rfl)) ?_
   refine R_nil ?_
   refine T_keep (kc 1 rfl <| kc 2 rfl <| kc 4 rfl <| kc 5 rfl <| kn) rfl ?_
   refine T_reg ?_
   refine R_q _ rfl (v_add (ov rfl) (ov rfl) rfl) ?_
   refine R_q _ rfl (v_move (ov rfl)) ?_
   refine R_nil ?_
   exact ⟨((i64 (high2 * 10)), (i64 (i + 1))), h, Ent.sel [some 0] (sr 1 rfl (.ptr _ _ _ rfl) <| sd 2 rfl rfl <| sd 4 rfl rfl <| sd 5 rfl rfl <| sn) (.cons rfl (ro1 (by exact tZ_102.symm) (rld rfl)) <| .nil) rfl rfl⟩
  ·
   refine T_exit ?_
   rw [lx h] at ho1
   replace h := ho1
   exact ⟨high2, h, Ent.sel [some 0] (sr 1 rfl (.ptr _ _ _ rfl) <| sd 2 rfl rfl <| sn) (.cons rfl (ro1 (by exact tZ_102.symm) (rld rfl)) <| .nil) rfl rfl⟩
 ·
  obtain ⟨high, rfl⟩ : ∃ x, x = j := ⟨_, rfl⟩
  replace h := t1i h
  refine t1T ?_
  refine T_seq (T_reg ?_)
  refine R_q _ rfl (v_move (ov rfl)) ?_
  refine R_q _ rfl (v_sub (ov rfl) (ov rfl) rfl) ?_
  refine R_q _ rfl (v_build (ys := [_, _, _, _]) tPL102 tHA102 tZ102 (.cons (cvs (ov rfl) (cell1_b rfl)) <| .cons (cvs (ov rfl) (cell1_b rfl)) <| .cons (cvs (ov rfl) (cell1_b rfl)) <| .cons (cvs (ov rfl) (cell1_b rfl)) <| .nil) rfl) ?_
  refine R_w _ _ rfl (w_store (ov rfl) (ov rfl) (cells_agg tA102 rfl) rfl rfl rfl (Nat.le_of_ble_eq_true rfl) (cell1_all rfl) rfl) ?_
  refine R_nil ?_
  obtain rfl := rt (v := (layout_number.mk 0 (i64 (high - 1)) (Fv.mk (fun z0 => layout_numberOf_8_1 z0) 117 []) (Fv.mk (fun z0 => layout_decimal z0) 118 []))) h
  refine T_ret (retq ?_ (.one (.agg rfl rfl rfl rfl tA102 rfl rfl (.cons (Dat.view (.b rfl)) <| .cons (Dat.view (.b rfl)) <| .cons (Dat.view (.fn)) <| .cons (Dat.view (.fn)) <| .nil))))
  rfl

theorem fok_layout_numberOf_8 {c0 : Int} {r : layout_number} (h : layout_numberOf_8 c0 = some r) : FOK99 r.encode ∧ FOK100 r.decode := by
 have key : AllS (fun r => FOK99 r.encode ∧ FOK100 r.decode) (layout_numberOf_8 c0) := by
  unfold layout_numberOf_8
  repeat' (first | exact as_none | with_reducible refine as_ite ?_ ?_ | with_reducible refine as_bind fun _ _ => ?_ | with_reducible refine as_t1 ?_)
  all_goals first | exact as_some ⟨⟨rfl, fun z0 _ hz => ok_layout_numberOf_8_1 hz⟩, ⟨rfl, fun z0 _ hz => ok_layout_decimal hz⟩⟩
 exact key r h

theorem ok_layout_numberOf {p : api_Param} {r : layout_number} (h : layout_numberOf p = some r) :
  CSpec Try.prog gl0 59 [.agg [.str p.Name, .int .i64 p.Kind, .sl 109 (List.map R109 p.Parts), .int .i64 p.First, .int .i64 p.Every, .int .i64 p.Times, .int .i64 p.Step, .sl 9 (List.map R9 p.Names)]] (.agg [.int .i64 r.low, .int .i64 r.high, .fn r.encode.f r.encode.c, .fn r.decode.f r.decode.c]) := by
 unfold layout_numberOf at h
 replace h := bnd0 h
 refine spec_of (by kernel_rfl) Try.func59 rfl rfl ?_
 intro w0 A
 refine T_seq (T_reg ?_)
 refine R_q _ rfl (v_boxD (cva (ov rfl)) rfl tZ_43 rfl) ?_
 refine R_w _ _ rfl (w_alloc (row := [_, _, _, _]) 0 rfl tZ102 rfl tZ_102) ?_
 refine R_nil ?_
 refine T_keep (kc 1 rfl <| kc 2 rfl <| kn) rfl ?_
 refine T_seq (T_reg ?_)
 refine R_q _ rfl (v_loadA_r (ov rfl) tA43 rfl rfl) ?_
 obtain ⟨y, h_y, h⟩ := bnd h
 refine R_q _ rfl (v_call (ok_layout_bitsOf h_y) (.cons (ov rfl) (.aggB rfl) <| .nil)) ?_
 refine R_w _ _ rfl (w_alloc (row := [_]) 1 rfl tZ3 rfl tZ_3) ?_
 refine R_w _ _ rfl (w_store (ov rfl) (ov rfl) (cells_scal tS3) rfl rfl rfl (Nat.le_of_ble_eq_true rfl) (cell1_all rfl) rfl) ?_
 refine R_nil ?_
 refine T_keep (kc 1 rfl <| kc 2 rfl <| kc 3 rfl <| kn) rfl ?_
 refine T_seq (T_reg ?_)
 refine R_q _ rfl (v_loadS (ov rfl) rfl rfl rfl tS3 rfl) ?_
 refine R_q _ rfl (v_sub (ov rfl) (ov rfl) rfl) ?_
 obtain ⟨q, h_q, h⟩ := bnd h
 refine R_q _ rfl (v_shlG (ov rfl) (ov rfl) h_q) ?_
 refine R_w _ _ rfl (w_alloc (row := [_]) 2 rfl tZ3 rfl tZ_3) ?_
 refine R_w _ _ rfl (w_store (ov rfl) (ov rfl) (cells_scal tS3) rfl rfl rfl (Nat.le_of_ble_eq_true rfl) (cell1_all rfl) rfl) ?_
 refine R_nil ?_
 refine T_keep (kc 1 rfl <| kc 2 rfl <| kc 3 rfl <| kc 4 rfl <| kn) rfl ?_
 refine T_seq (T_reg ?_)
 refine R_w _ _ rfl (w_alloc (row := [_]) 3 rfl tZ99 rfl tZ_99) ?_
 refine R_w _ _ rfl (w_store (ov rfl) (ov rfl) (cells_scal tS99) rfl rfl rfl (Nat.le_of_ble_eq_true rfl) (cell1_all rfl) rfl) ?_
 refine R_nil ?_
 refine T_seq (T_reg ?_)
 refine R_ent (Ent.sel [some 0, some 1, some 2, none] (sd 1 rfl rfl <| sr 2 rfl (.ptr (r' := 0) _ _ _ rfl) <| sr 3 rfl (.ptr (r' := 1) _ _ _ rfl) <| sr 4 rfl (.ptr (r' := 2) _ _ _ rfl) <| sr 5 rfl (.frp ⟨rfl, ⟨_, rfl⟩, rfl, rfl⟩) <| sn) (.cons rfl (ro1 (by exact tZ_102.symm) (rld rfl)) <| .cons rfl (ro1 (by exact tZ_3.symm) (rld rfl)) <| .cons rfl (ro1 (by exact tZ_3.symm) (rld rfl)) <| .row 99 <| .nil) rfl rfl) ?_
 refine R_q _ rfl (v_makeFunc (.cons (ov rfl) <| .nil)) ?_
 refine R_w _ _ rfl (w_alloc (row := [_]) 4 rfl tZ147 rfl tZ_147) ?_
 refine R_w _ _ rfl (w_store (ov rfl) (ov rfl) (cells_scal tS147) rfl rfl rfl (Nat.le_of_ble_eq_true rfl) (cell1_all rfl) rfl) ?_
 refine R_nil ?_
 refine T_keep (kc 1 rfl <| kc 2 rfl <| kc 3 rfl <| kc 4 rfl <| kc 6 rfl <| kn) rfl ?_
 refine T_seq (T_reg ?_)
 refine R_w _ _ rfl (w_makeMap 5 rfl tMp149) ?_
 refine R_ent (Ent.sel [some 0, some 1, some 2, some 3, none, some 5] (sd 1 rfl rfl <| sr 2 rfl (.ptr (r' := 0) _ _ _ rfl) <| sr 3 rfl (.ptr (r' := 1) _ _ _ rfl) <| sr 4 rfl (.ptr (r' := 2) _ _ _ rfl) <| sr 6 rfl (.frp ⟨rfl, ⟨_, rfl⟩, rfl, rfl⟩) <| sr 14 rfl (.mref (r' := 5) _ rfl) <| sn) (.cons rfl (ro1 (by exact tZ_102.symm) (rld rfl)) <| .cons rfl (ro1 (by exact tZ_3.symm) (rld rfl)) <| .cons rfl (ro1 (by exact tZ_3.symm) (rld rfl)) <| .cons rfl (roE) <| .row 147 <| .cons rfl (roMapD (fk := FK3) (m := ([] : List (Int × AV))) tZ_149 (fun _ => .dat rfl) rfl) <| .nil) rfl rfl) ?_
 refine R_ent (Ent.sel [some 0, some 1, none, some 3, some 4, some 5] (sd 1 rfl rfl <| sr 2 rfl (.ptr (r' := 0) _ _ _ rfl) <| sr 3 rfl (.ptr (r' := 1) _ _ _ rfl) <| sr 4 rfl (.frp ⟨rfl, ⟨_, rfl⟩, rfl, rfl⟩) <| sd 6 rfl rfl <| sr 14 rfl (.mref (r' := 5) _ rfl) <| sn) (.cons rfl (ro1 (by exact tZ_102.symm) (rld rfl)) <| .cons rfl (ro1 (by exact tZ_3.symm) (rld rfl)) <| .row 3 <| .cons rfl (roE) <| .cons rfl (roE) <| .cons rfl (roMapD (fk := FK3) (m := ([] : List (Int × AV))) tZ_149 (fun _ => .dat rfl) rfl) <| .nil) rfl rfl) ?_
 refine R_q _ rfl (v_makeFunc (.cons (ov rfl) <| .cons (ov rfl) <| .nil)) ?_
 refine R_w _ _ rfl (w_insert (m := ([] : List (Int × AV))) (fk := FK3) (fv := id) (k := 1) (v := .fn 107 [.rp [.fn 105 [.rp [.fn 104 []] 0]] 0, .rp [.int .i64 q] 0]) (m' := ([(1, .fn 107 [.rp [.fn 105 [.rp [.fn 104 []] 0]] 0, .rp [.int .i64 q] 0])] : List (Int × AV))) (ov rfl) (ov rfl) (ov rfl) tMp149 tKO3 rfl (fun _ => .b rfl) rfl) ?_
 refine R_q _ rfl (v_makeFunc (.cons (ov rfl) <| .nil)) ?_
 refine R_w _ _ rfl (w_insert (m := ([(1, .fn 107 [.rp [.fn 105 [.rp [.fn 104 []] 0]] 0, .rp [.int .i64 q] 0])] : List (Int × AV))) (fk := FK3) (fv := id) (k := 5) (v := .fn 108 [.rp [.fn 105 [.rp [.fn 104 []] 0]] 0]) (m' := ([(1, .fn 107 [.rp [.fn 105 [.rp [.fn 104 []] 0]] 0, .rp [.int .i64 q] 0]), (5, .fn 108 [.rp [.fn 105 [.rp [.fn 104 []] 0]] 0])] : List (Int × AV))) (ov rfl) (ov rfl) (ov rfl) tMp149 tKO3 rfl (fun _ => .b rfl) rfl) ?_
 refine R_q _ rfl (v_makeFunc (.cons (ov rfl) <| .cons (ov rfl) <| .nil)) ?_
 refine R_w _ _ rfl (w_insert (m := ([(1, .fn 107 [.rp [.fn 105 [.rp [.fn 104 []] 0]] 0, .rp [.int .i64 q] 0]), (5, .fn 108 [.rp [.fn 105 [.rp [.fn 104 []] 0]] 0])] : List (Int × AV))) (fk := FK3) (fv := id) (k := 6) (v := .fn 109 [.rp [.fn 105 [.rp [.fn 104 []] 0]] 0, .rp [.str p.Name, .int .i64 p.Kind, .sl 109 (List.map R109 p.Parts), .int .i64 p.First, .int .i64 p.Every, .int .i64 p.Times, .int .i64 p.Step, .sl 9 (List.map R9 p.Names)] 0]) (m' := ([(1, .fn 107 [.rp [.fn 105 [.rp [.fn 104 []] 0]] 0, .rp [.int .i64 q] 0]), (5, .fn 108 [.rp [.fn 105 [.rp [.fn 104 []] 0]] 0]), (6, .fn 109 [.rp [.fn 105 [.rp [.fn 104 []] 0]] 0, .rp [.str p.Name, .int .i64 p.Kind, .sl 109 (List.map R109 p.Parts), .int .i64 p.First, .int .i64 p.Every, .int .i64 p.Times, .int .i64 p.Step, .sl 9 (List.map R9 p.Names)] 0])] : List (Int × AV))) (ov rfl) (ov rfl) (ov rfl) tMp149 tKO3 rfl (fun _ => .b rfl) rfl) ?_
 refine R_q _ rfl (v_makeFunc (.cons (ov rfl) <| .nil)) ?_
 refine R_w _ _ rfl (w_insert (m := ([(1, .fn 107 [.rp [.fn 105 [.rp [.fn 104 []] 0]] 0, .rp [.int .i64 q] 0]), (5, .fn 108 [.rp [.fn 105 [.rp [.fn 104 []] 0]] 0]), (6, .fn 109 [.rp [.fn 105 [.rp [.fn 104 []] 0]] 0, .rp [.str p.Name, .int .i64 p.Kind, .sl 109 (List.map R109 p.Parts), .int .i64 p.First, .int .i64 p.Every, .int .i64 p.Times, .int .i64 p.Step, .sl 9 (List.map R9 p.Names)] 0])] : List (Int × AV))) (fk := FK3) (fv := id) (k := 2) (v := .fn 110 [.rp [.int .i64 q] 0]) (m' := ([(1, .fn 107 [.rp [.fn 105 [.rp [.fn 104 []] 0]] 0, .rp [.int .i64 q] 0]), (5, .fn 108 [.rp [.fn 105 [.rp [.fn 104 []] 0]] 0]), (6, .fn 109 [.rp [.fn 105 [.rp [.fn 104 []] 0]] 0, .rp [.str p.Name, .int .i64 p.Kind, .sl 109 (List.map R109 p.Parts), .int .i64 p.First, .int .i64 p.Every, .int .i64 p.Times, .int .i64 p.Step, .sl 9 (List.map R9 p.Names)] 0]), (2, .fn 110 [.rp [.int .i64 q] 0])] : List (Int × AV))) (ov rfl) (ov rfl) (ov rfl) tMp149 tKO3 rfl (fun _ => .b rfl) rfl) ?_
 refine R_q _ rfl (v_makeFunc (.cons (ov rfl) <| .nil)) ?_
 refine R_w _ _ rfl (w_insert (m := ([(1, .fn 107 [.rp [.fn 105 [.rp [.fn 104 []] 0]] 0, .rp [.int .i64 q] 0]), (5, .fn 108 [.rp [.fn 105 [.rp [.fn 104 []] 0]] 0]), (6, .fn 109 [.rp [.fn 105 [.rp [.fn 104 []] 0]] 0, .rp [.str p.Name, .int .i64 p.Kind, .sl 109 (List.map R109 p.Parts), .int .i64 p.First, .int .i64 p.Every, .int .i64 p.Times, .int .i64 p.Step, .sl 9 (List.map R9 p.Names)] 0]), (2, .fn 110 [.rp [.int .i64 q] 0])] : List (Int × AV))) (fk := FK3) (fv := id) (k := 3) (v := .fn 113 [.rp [.int .i64 q] 0]) (m' := ([(1, .fn 107 [.rp [.fn 105 [.rp [.fn 104 []] 0]] 0, .rp [.int .i64 q] 0]), (5, .fn 108 [.rp [.fn 105 [.rp [.fn 104 []] 0]] 0]), (6, .fn 109 [.rp [.fn 105 [.rp [.fn 104 []] 0]] 0, .rp [.str p.Name, .int .i64 p.Kind, .sl 109 (List.map R109 p.Parts), .int .i64 p.First, .int .i64 p.Every, .int .i64 p.Times, .int .i64 p.Step, .sl 9 (List.map R9 p.Names)] 0]), (2, .fn 110 [.rp [.int .i64 q] 0]), (3, .fn 113 [.rp [.int .i64 q] 0])] : List (Int × AV))) (ov rfl) (ov rfl) (ov rfl) tMp149 tKO3 rfl (fun _ => .b rfl) rfl) ?_
 refine R_ent (Ent.sel [some 0, none, some 2, some 3, some 4, some 5] (sd 1 rfl rfl <| sr 2 rfl (.ptr (r' := 0) _ _ _ rfl) <| sr 3 rfl (.frp ⟨rfl, ⟨_, rfl⟩, rfl, rfl⟩) <| sd 4 rfl rfl <| sd 6 rfl rfl <| sr 14 rfl (.mref (r' := 5) _ rfl) <| sr 15 rfl (rFn (rlc (.dat rfl) <| rlc (.dat rfl) <| rln)) <| sr 16 rfl (rFn (rlc (.dat rfl) <| rln)) <| sr 17 rfl (rFn (rlc (.dat rfl) <| rlc (.dat rfl) <| rln)) <| sr 18 rfl (rFn (rlc (.dat rfl) <| rln)) <| sr 19 rfl (rFn (rlc (.dat rfl) <| rln)) <| sn) (.cons rfl (ro1 (by exact tZ_102.symm) (rld rfl)) <| .row 3 <| .cons rfl (roE) <| .cons rfl (roE) <| .cons rfl (roE) <| .cons rfl (roMapD (fk := FK3) (m := ([(1, .fn 107 [.rp [.fn 105 [.rp [.fn 104 []] 0]] 0, .rp [.int .i64 q] 0]), (5, .fn 108 [.rp [.fn 105 [.rp [.fn 104 []] 0]] 0]), (6, .fn 109 [.rp [.fn 105 [.rp [.fn 104 []] 0]] 0, .rp [.str p.Name, .int .i64 p.Kind, .sl 109 (List.map R109 p.Parts), .int .i64 p.First, .int .i64 p.Every, .int .i64 p.Times, .int .i64 p.Step, .sl 9 (List.map R9 p.Names)] 0]), (2, .fn 110 [.rp [.int .i64 q] 0]), (3, .fn 113 [.rp [.int .i64 q] 0])] : List (Int × AV))) tZ_149 (fun _ => .dat rfl) rfl) <| .nil) rfl rfl) ?_
 refine R_q _ rfl (v_makeFunc (.cons (ov rfl) <| .nil)) ?_
 refine R_w _ _ rfl (w_insert (m := ([(1, .fn 107 [.rp [.fn 105 [.rp [.fn 104 []] 0]] 0, .rp [.int .i64 q] 0]), (5, .fn 108 [.rp [.fn 105 [.rp [.fn 104 []] 0]] 0]), (6, .fn 109 [.rp [.fn 105 [.rp [.fn 104 []] 0]] 0, .rp [.str p.Name, .int .i64 p.Kind, .sl 109 (List.map R109 p.Parts), .int .i64 p.First, .int .i64 p.Every, .int .i64 p.Times, .int .i64 p.Step, .sl 9 (List.map R9 p.Names)] 0]), (2, .fn 110 [.rp [.int .i64 q] 0]), (3, .fn 113 [.rp [.int .i64 q] 0])] : List (Int × AV))) (fk := FK3) (fv := id) (k := 4) (v := .fn 116 [.rp [.int .i64 y] 0]) (m' := ([(1, .fn 107 [.rp [.fn 105 [.rp [.fn 104 []] 0]] 0, .rp [.int .i64 q] 0]), (5, .fn 108 [.rp [.fn 105 [.rp [.fn 104 []] 0]] 0]), (6, .fn 109 [.rp [.fn 105 [.rp [.fn 104 []] 0]] 0, .rp [.str p.Name, .int .i64 p.Kind, .sl 109 (List.map R109 p.Parts), .int .i64 p.First, .int .i64 p.Every, .int .i64 p.Times, .int .i64 p.Step, .sl 9 (List.map R9 p.Names)] 0]), (2, .fn 110 [.rp [.int .i64 q] 0]), (3, .fn 113 [.rp [.int .i64 q] 0]), (4, .fn 116 [.rp [.int .i64 y] 0])] : List (Int × AV))) (ov rfl) (ov rfl) (ov rfl) tMp149 tKO3 rfl (fun _ => .b rfl) rfl) ?_
 refine R_q _ rfl (v_move (ov rfl)) ?_
 refine R_q _ rfl (v_assign (ov rfl)) ?_
 refine R_nil ?_
 refine T_keep (kc 1 rfl <| kc 2 rfl <| kc 7 rfl <| kn) rfl ?_
 refine T_seq (T_reg ?_)
 refine R_q _ rfl (v_move (ov rfl)) ?_
 refine R_q _ rfl (v_fieldR (ov rfl) tF43_1) ?_
 refine R_q _ rfl (v_loadS_r (ov rfl) tS3 rfl) ?_
 rcases ifR h with ⟨hk3_0, h⟩ | ⟨hk3_0, h⟩
 ·
  refine R_q _ rfl (v_lk1 (m := ([(1, .fn 107 [.rp [.fn 105 [.rp [.fn 104 []] 0]] 0, .rp [.int .i64 q] 0]), (5, .fn 108 [.rp [.fn 105 [.rp [.fn 104 []] 0]] 0]), (6, .fn 109 [.rp [.fn 105 [.rp [.fn 104 []] 0]] 0, .rp [.str p.Name, .int .i64 p.Kind, .sl 109 (List.map R109 p.Parts), .int .i64 p.First, .int .i64 p.Every, .int .i64 p.Times, .int .i64 p.Step, .sl 9 (List.map R9 p.Names)] 0]), (2, .fn 110 [.rp [.int .i64 q] 0]), (3, .fn 113 [.rp [.int .i64 q] 0]), (4, .fn 116 [.rp [.int .i64 y] 0])] : List (Int × AV))) (fk := FK3) (fv := id) (k := p.Kind) (z0 := .lit .nilFunc) (ov rfl) (ov rfl) tMp149 tKO3 rfl (fun _ => .b rfl) (zero_scal tZV148 rfl) (nsD rfl) (lkS (mgT hk3_0))) ?_
  obtain ⟨y2, h_y2, h⟩ := bnd h
  refine R_q _ rfl (v_callC (ov rfl) rfl (ok_layout_numberOf_3 h_y2) (.nil)) ?_
  refine R_w _ _ rfl (w_store (ov rfl) (ov rfl) (cells_agg tA102 rfl) rfl rfl rfl (Nat.le_of_ble_eq_true rfl) (cell1_all rfl) rfl) ?_
  refine R_nil ?_
  obtain rfl := rt (v := y2) h
  refine T_ret (retq ?_ (.one (.agg rfl rfl rfl rfl tA102 rfl rfl (.cons (Dat.view (.b rfl)) <| .cons (Dat.view (.b rfl)) <| .cons (Dat.view (Dat.fnC (.refl fun x hx => .b (List.all_eq_true.1 (((fok_layout_numberOf_3 h_y2).1)).1 x hx)))) <| .cons (Dat.view (Dat.fnC (.refl fun x hx => .b (List.all_eq_true.1 (((fok_layout_numberOf_3 h_y2).2)).1 x hx)))) <| .nil))))
  rfl
 ·
  rcases ifR h with ⟨hk3_1, h⟩ | ⟨hk3_1, h⟩
  ·
   refine R_q _ rfl (v_lk1 (m := ([(1, .fn 107 [.rp [.fn 105 [.rp [.fn 104 []] 0]] 0, .rp [.int .i64 q] 0]), (5, .fn 108 [.rp [.fn 105 [.rp [.fn 104 []] 0]] 0]), (6, .fn 109 [.rp [.fn 105 [.rp [.fn 104 []] 0]] 0, .rp [.str p.Name, .int .i64 p.Kind, .sl 109 (List.map R109 p.Parts), .int .i64 p.First, .int .i64 p.Every, .int .i64 p.Times, .int .i64 p.Step, .sl 9 (List.map R9 p.Names)] 0]), (2, .fn 110 [.rp [.int .i64 q] 0]), (3, .fn 113 [.rp [.int .i64 q] 0]), (4, .fn 116 [.rp [.int .i64 y] 0])] : List (Int × AV))) (fk := FK3) (fv := id) (k := p.Kind) (z0 := .lit .nilFunc) (ov rfl) (ov rfl) tMp149 tKO3 rfl (fun _ => .b rfl) (zero_scal tZV148 rfl) (nsD rfl) (lkS (mgF hk3_0 (mgT hk3_1)))) ?_
   obtain ⟨y3, h_y3, h⟩ := bnd h
   refine R_q _ rfl (v_callC (ov rfl) rfl (ok_layout_numberOf_4 h_y3) (.nil)) ?_
   refine R_w _ _ rfl (w_store (ov rfl) (ov rfl) (cells_agg tA102 rfl) rfl rfl rfl (Nat.le_of_ble_eq_true rfl) (cell1_all rfl) rfl) ?_
   refine R_nil ?_
   obtain rfl := rt (v := y3) h
   refine T_ret (retq ?_ (.one (.agg rfl rfl rfl rfl tA102 rfl rfl (.cons (Dat.view (.b rfl)) <| .cons (Dat.view (.b rfl)) <| .cons (Dat.view (Dat.fnC (.refl fun x hx => .b (List.all_eq_true.1 (((fok_layout_numberOf_4 h_y3).1)).1 x hx)))) <| .cons (Dat.view (Dat.fnC (.refl fun x hx => .b (List.all_eq_true.1 (((fok_layout_numberOf_4 h_y3).2)).1 x hx)))) <| .nil))))
   rfl
  ·
   rcases ifR h with ⟨hk3_2, h⟩ | ⟨hk3_2, h⟩
   ·
    refine R_q _ rfl (v_lk1 (m := ([(1, .fn 107 [.rp [.fn 105 [.rp [.fn 104 []] 0]] 0, .rp [.int .i64 q] 0]), (5, .fn 108 [.rp [.fn 105 [.rp [.fn 104 []] 0]] 0]), (6, .fn 109 [.rp [.fn 105 [.rp [.fn 104 []] 0]] 0, .rp [.str p.Name, .int .i64 p.Kind, .sl 109 (List.map R109 p.Parts), .int .i64 p.First, .int .i64 p.Every, .int .i64 p.Times, .int .i64 p.Step, .sl 9 (List.map R9 p.Names)] 0]), (2, .fn 110 [.rp [.int .i64 q] 0]), (3, .fn 113 [.rp [.int .i64 q] 0]), (4, .fn 116 [.rp [.int .i64 y] 0])] : List (Int × AV))) (fk := FK3) (fv := id) (k := p.Kind) (z0 := .lit .nilFunc) (ov rfl) (ov rfl) tMp149 tKO3 rfl (fun _ => .b rfl) (zero_scal tZV148 rfl) (nsD rfl) (lkS (mgF hk3_0 (mgF hk3_1 (mgT hk3_2))))) ?_
    obtain ⟨y4, h_y4, h⟩ := bnd h
    refine R_q _ rfl (v_callC (ov rfl) rfl (ok_layout_numberOf_5 h_y4) (.nil)) ?_
    refine R_w _ _ rfl (w_store (ov rfl) (ov rfl) (cells_agg tA102 rfl) rfl rfl rfl (Nat.le_of_ble_eq_true rfl) (cell1_all rfl) rfl) ?_
    refine R_nil ?_
    obtain rfl := rt (v := y4) h
    refine T_ret (retq ?_ (.one (.agg rfl rfl rfl rfl tA102 rfl rfl (.cons (Dat.view (.b rfl)) <| .cons (Dat.view (.b rfl)) <| .cons (Dat.view (Dat.fnC (.refl fun x hx => .b (List.all_eq_true.1 (((fok_layout_numberOf_5 h_y4).1)).1 x hx)))) <| .cons (Dat.view (Dat.fnC (.refl fun x hx => .b (List.all_eq_true.1 (((fok_layout_numberOf_5 h_y4).2)).1 x hx)))) <| .nil))))
    rfl
   ·
    rcases ifR h with ⟨hk3_3, h⟩ | ⟨hk3_3, h⟩
    ·
     refine R_q _ rfl (v_lk1 (m := ([(1, .fn 107 [.rp [.fn 105 [.rp [.fn 104 []] 0]] 0, .rp [.int .i64 q] 0]), (5, .fn 108 [.rp [.fn 105 [.rp [.fn 104 []] 0]] 0]), (6, .fn 109 [.rp [.fn 105 [.rp [.fn 104 []] 0]] 0, .rp [.str p.Name, .int .i64 p.Kind, .sl 109 (List.map R109 p.Parts), .int .i64 p.First, .int .i64 p.Every, .int .i64 p.Times, .int .i64 p.Step, .sl 9 (List.map R9 p.Names)] 0]), (2, .fn 110 [.rp [.int .i64 q] 0]), (3, .fn 113 [.rp [.int .i64 q] 0]), (4, .fn 116 [.rp [.int .i64 y] 0])] : List (Int × AV))) (fk := FK3) (fv := id) (k := p.Kind) (z0 := .lit .nilFunc) (ov rfl) (ov rfl) tMp149 tKO3 rfl (fun _ => .b rfl) (zero_scal tZV148 rfl) (nsD rfl) (lkS (mgF hk3_0 (mgF hk3_1 (mgF hk3_2 (mgT hk3_3)))))) ?_
     obtain ⟨y5, h_y5, h⟩ := bnd h
     refine R_q _ rfl (v_callC (ov rfl) rfl (ok_layout_numberOf_6 h_y5) (.nil)) ?_
     refine R_w _ _ rfl (w_store (ov rfl) (ov rfl) (cells_agg tA102 rfl) rfl rfl rfl (Nat.le_of_ble_eq_true rfl) (cell1_all rfl) rfl) ?_
     refine R_nil ?_
     obtain rfl := rt (v := y5) h
     refine T_ret (retq ?_ (.one (.agg rfl rfl rfl rfl tA102 rfl rfl (.cons (Dat.view (.b rfl)) <| .cons (Dat.view (.b rfl)) <| .cons (Dat.view (Dat.fnC (.refl fun x hx => .b (List.all_eq_true.1 (((fok_layout_numberOf_6 h_y5).1)).1 x hx)))) <| .cons (Dat.view (Dat.fnC (.refl fun x hx => .b (List.all_eq_true.1 (((fok_layout_numberOf_6 h_y5).2)).1 x hx)))) <| .nil))))
     rfl
    ·
     rcases ifR h with ⟨hk3_4, h⟩ | ⟨hk3_4, h⟩
     ·
      refine R_q _ rfl (v_lk1 (m := ([(1, .fn 107 [.rp [.fn 105 [.rp [.fn 104 []] 0]] 0, .rp [.int .i64 q] 0]), (5, .fn 108 [.rp [.fn 105 [.rp [.fn 104 []] 0]] 0]), (6, .fn 109 [.rp [.fn 105 [.rp [.fn 104 []] 0]] 0, .rp [.str p.Name, .int .i64 p.Kind, .sl 109 (List.map R109 p.Parts), .int .i64 p.First, .int .i64 p.Every, .int .i64 p.Times, .int .i64 p.Step, .sl 9 (List.map R9 p.Names)] 0]), (2, .fn 110 [.rp [.int .i64 q] 0]), (3, .fn 113 [.rp [.int .i64 q] 0]), (4, .fn 116 [.rp [.int .i64 y] 0])] : List (Int × AV))) (fk := FK3) (fv := id) (k := p.Kind) (z0 := .lit .nilFunc) (ov rfl) (ov rfl) tMp149 tKO3 rfl (fun _ => .b rfl) (zero_scal tZV148 rfl) (nsD rfl) (lkS (mgF hk3_0 (mgF hk3_1 (mgF hk3_2 (mgF hk3_3 (mgT hk3_4))))))) ?_
      obtain ⟨y6, h_y6, h⟩ := bnd h
      refine R_q _ rfl (v_callC (ov rfl) rfl (ok_layout_numberOf_7 h_y6) (.nil)) ?_
      refine R_w _ _ rfl (w_store (ov rfl) (ov rfl) (cells_agg tA102 rfl) rfl rfl rfl (Nat.le_of_ble_eq_true rfl) (cell1_all rfl) rfl) ?_
      refine R_nil ?_
      obtain rfl := rt (v := y6) h
      refine T_ret (retq ?_ (.one (.agg rfl rfl rfl rfl tA102 rfl rfl (.cons (Dat.view (.b rfl)) <| .cons (Dat.view (.b rfl)) <| .cons (Dat.view (Dat.fnC (.refl fun x hx => .b (List.all_eq_true.1 (((fok_layout_numberOf_7 h_y6).1)).1 x hx)))) <| .cons (Dat.view (Dat.fnC (.refl fun x hx => .b (List.all_eq_true.1 (((fok_layout_numberOf_7 h_y6).2)).1 x hx)))) <| .nil))))
      rfl
     ·
      rcases ifR h with ⟨hk3_5, h⟩ | ⟨hk3_5, h⟩
      ·
       refine R_q _ rfl (v_lk1 (m := ([(1, .fn 107 [.rp [.fn 105 [.rp [.fn 104 []] 0]] 0, .rp [.int .i64 q] 0]), (5, .fn 108 [.rp [.fn 105 [.rp [.fn 104 []] 0]] 0]), (6, .fn 109 [.rp [.fn 105 [.rp [.fn 104 []] 0]] 0, .rp [.str p.Name, .int .i64 p.Kind, .sl 109 (List.map R109 p.Parts), .int .i64 p.First, .int .i64 p.Every, .int .i64 p.Times, .int .i64 p.Step, .sl 9 (List.map R9 p.Names)] 0]), (2, .fn 110 [.rp [.int .i64 q] 0]), (3, .fn 113 [.rp [.int .i64 q] 0]), (4, .fn 116 [.rp [.int .i64 y] 0])] : List (Int × AV))) (fk := FK3) (fv := id) (k := p.Kind) (z0 := .lit .nilFunc) (ov rfl) (ov rfl) tMp149 tKO3 rfl (fun _ => .b rfl) (zero_scal tZV148 rfl) (nsD rfl) (lkS (mgF hk3_0 (mgF hk3_1 (mgF hk3_2 (mgF hk3_3 (mgF hk3_4 (mgT hk3_5)))))))) ?_
       obtain ⟨y7, h_y7, h⟩ := bnd h
       refine R_q _ rfl (v_callC (ov rfl) rfl (ok_layout_numberOf_8 h_y7) (.nil)) ?_
       refine R_w _ _ rfl (w_store (ov rfl) (ov rfl) (cells_agg tA102 rfl) rfl rfl rfl (Nat.le_of_ble_eq_true rfl) (cell1_all rfl) rfl) ?_
       refine R_nil ?_
       obtain rfl := rt (v := y7) h
       refine T_ret (retq ?_ (.one (.agg rfl rfl rfl rfl tA102 rfl rfl (.cons (Dat.view (.b rfl)) <| .cons (Dat.view (.b rfl)) <| .cons (Dat.view (Dat.fnC (.refl fun x hx => .b (List.all_eq_true.1 (((fok_layout_numberOf_8 h_y7).1)).1 x hx)))) <| .cons (Dat.view (Dat.fnC (.refl fun x hx => .b (List.all_eq_true.1 (((fok_layout_numberOf_8 h_y7).2)).1 x hx)))) <| .nil))))
       rfl
      ·
       exact (noneB h).elim

theorem fok_layout_numberOf {p : api_Param} {r : layout_number} (h : layout_numberOf p = some r) : FOK99 r.encode ∧ FOK100 r.decode := by
 have key : AllS (fun r => FOK99 r.encode ∧ FOK100 r.decode) (layout_numberOf p) := by
  unfold layout_numberOf
  repeat' (first | exact as_none | with_reducible refine as_ite ?_ ?_ | with_reducible refine as_bind fun _ _ => ?_ | with_reducible refine as_t1 ?_)
  all_goals first | exact as_some ⟨((fok_layout_numberOf_3 (by assumption)).1), ((fok_layout_numberOf_3 (by assumption)).2)⟩ | exact as_some ⟨((fok_layout_numberOf_4 (by assumption)).1), ((fok_layout_numberOf_4 (by assumption)).2)⟩ | exact as_some ⟨((fok_layout_numberOf_5 (by assumption)).1), ((fok_layout_numberOf_5 (by assumption)).2)⟩ | exact as_some ⟨((fok_layout_numberOf_6 (by assumption)).1), ((fok_layout_numberOf_6 (by assumption)).2)⟩ | exact as_some ⟨((fok_layout_numberOf_7 (by assumption)).1), ((fok_layout_numberOf_7 (by assumption)).2)⟩ | exact as_some ⟨((fok_layout_numberOf_8 (by assumption)).1), ((fok_layout_numberOf_8 (by assumption)).2)⟩
 exact key r h

theorem ok_layout_Pack {m : api_Map} {l : List Int} {r : (Vector (List Int) 16) × Int} (h : layout_Pack m l = some r) :
  CSpec Try.prog gl0 14 [.agg [.int .i64 m.Version, .sl 43 (List.map R43 m.Params)], .sl 3 (List.map R3 l)] (.tuple [.agg (List.map C25 r.1.toList), .int .i64 r.2]) := by
 unfold layout_Pack at h
 replace h := bnd0 h
 refine spec_of (by kernel_rfl) Try.func14 rfl rfl ?_
 intro w0 A
 refine T_seq (T_reg ?_)
 refine R_q _ rfl (v_boxD (cva (ov rfl)) rfl tZ_24 rfl) ?_
 refine R_w _ _ rfl (w_alloc (row := [_, _, _, _, _, _, _, _, _, _, _, _, _, _, _, _]) 0 rfl tZ26 rfl tZ_26) ?_
 refine R_q _ rfl (v_assign (ov rfl)) ?_
 refine R_nil ?_
 refine T_keep (kc 1 rfl <| kc 2 rfl <| kc 4 rfl <| kn) rfl ?_
 refine T_seq (T_reg ?_)
 refine R_w _ _ rfl (w_alloc (row := [_, _, _, _, _, _, _, _, _, _, _, _, _, _, _, _]) 1 rfl tZ26 rfl tZ_26) ?_
 refine R_w _ _ rfl (w_alloc (row := [_, _, _, _, _, _, _, _, _, _, _, _, _, _, _, _]) 2 rfl tZ26 rfl tZ_26) ?_
 refine R_nil ?_
 refine T_seq ?_
 refine T_seq (T_reg ?_)
 refine R_q _ rfl (v_loadA_r (ov rfl) tA24 rfl rfl) ?_
 obtain ⟨y, h_y, h⟩ := bnd h
 refine R_q _ rfl (v_call (ok_layout_check h_y) (.cons (ov rfl) (.aggB rfl) <| .nil)) ?_
 refine R_q _ rfl (v_move (ov rfl)) ?_
 refine R_q _ rfl (v_extract (ov rfl) rfl) ?_
 refine R_q _ rfl (v_extract (ov rfl) rfl) ?_
 refine R_q _ rfl (v_assign (ov rfl)) ?_
 refine R_q _ rfl (v_assign (ov rfl)) ?_
 refine R_nil ?_
 refine T_keep (kc 1 rfl <| kc 2 rfl <| kc 4 rfl <| kc 6 rfl <| kc 7 rfl <| kc 9 rfl <| kn) rfl ?_
 refine T_seq (T_reg ?_)
 refine R_q _ rfl (v_move (ov rfl)) ?_
 refine R_q _ rfl (v_neq (ov rfl) (ov rfl)) ?_
 refine R_nil ?_
 refine T_keep (kc 1 rfl <| kc 2 rfl <| kc 4 rfl <| kc 6 rfl <| kc 7 rfl <| kc 9 rfl <| kc 25 rfl <| kn) rfl ?_
 refine T_if h rfl (fun b25 h => ?_) (fun b25 h => ?_)
 ·
  refine T_keep (kc 4 rfl <| kc 7 rfl <| kc 9 rfl <| kn) rfl ?_
  refine T_seq (T_reg ?_)
  refine R_q _ rfl (v_loadA (ov rfl) rfl rfl rfl tA26 rfl rfl) ?_
  refine R_q _ rfl (v_move (ov rfl)) ?_
  refine R_w _ _ rfl (w_store (ov rfl) (ov rfl) (cells_agg tA26 rfl) rfl rfl rfl (Nat.le_of_ble_eq_true rfl) (cell1_all rfl) rfl) ?_
  refine R_q _ rfl (v_assign (ov rfl)) ?_
  refine R_nil ?_
  obtain rfl := rt (v := ((Vector.replicate 16 []), y.2)) h
  refine T_ret (retq ?_ (.two (.agg rfl rfl rfl rfl tA26 rfl rfl (pwZ (m := 16) (f := C25) rfl rfl)) (.tmp rfl (Dat.view (.b rfl)))))
  rfl
 ·
  refine T_skip ?_
  refine T_keep (kc 1 rfl <| kc 2 rfl <| kc 4 rfl <| kc 6 rfl <| kc 7 rfl <| kn) rfl ?_
  refine T_seq (T_reg ?_)
  refine R_q _ rfl (v_loadA_r (ov rfl) tA24 rfl rfl) ?_
  obtain ⟨y2, h_y2, h⟩ := bnd h
  refine R_q _ rfl (v_call (ok_layout_cells h_y2) (.cons (ov rfl) (.aggB rfl) <| .nil)) ?_
  refine R_q _ rfl (v_assign (ov rfl)) ?_
  refine R_nil ?_
  refine T_seq ?_
  refine T_keep (kc 1 rfl <| kc 2 rfl <| kc 4 rfl <| kc 6 rfl <| kc 7 rfl <| kc 10 rfl <| kn) rfl ?_
  refine T_seq (T_reg ?_)
  refine R_q _ rfl (v_move (ov rfl)) ?_
  refine R_q _ rfl (v_len (slv_sl (ov rfl) tZ_3) tL25 (len_map _ _)) ?_
  refine R_q _ rfl (v_move (ov rfl)) ?_
  refine R_q _ rfl (v_len (slv_sl (ov rfl) tZ_54) tL62 (len_map _ _)) ?_
  refine R_q _ rfl (v_neq (ov rfl) (ov rfl)) ?_
  refine R_nil ?_
  refine T_keep (kc 1 rfl <| kc 2 rfl <| kc 4 rfl <| kc 6 rfl <| kc 7 rfl <| kc 10 rfl <| kc 34 rfl <| kn) rfl ?_
  refine T_if h rfl (fun b34 h => ?_) (fun b34 h => ?_)
  ·
   refine T_keep (kc 4 rfl <| kc 7 rfl <| kn) rfl ?_
   refine T_seq (T_reg ?_)
   refine R_q _ rfl (v_loadA (ov rfl) rfl rfl rfl tA26 rfl rfl) ?_
   refine R_w _ _ rfl (w_store (ov rfl) (ov rfl) (cells_agg tA26 rfl) rfl rfl rfl (Nat.le_of_ble_eq_true rfl) (cell1_all rfl) rfl) ?_
   refine R_q _ rfl (v_assign (ov rfl)) ?_
   refine R_nil ?_
   obtain rfl := rt (v := ((Vector.replicate 16 []), 3)) h
   refine T_ret (retq ?_ (.two (.agg rfl rfl rfl rfl tA26 rfl rfl (pwZ (m := 16) (f := C25) rfl rfl)) (.tmp rfl (Dat.view (.b rfl)))))
   rfl
  ·
   refine T_skip ?_
   refine T_joinG id (t1 fun out => ⟨[(1, .sl 3 (List.map R3 l)), (2, .rp [.int .i64 m.Version, .sl 43 (List.map R43 m.Params)] 0), (4, .ptr 0 1 0 0), (6, .ptr 1 1 0 0), (7, .ptr 2 1 0 0), (10, .sl 54 (List.map R54 y2))], [some ⟨26, [[.nils, .nils, .nils, .nils, .nils, .nils, .nils, .nils, .nils, .nils, .nils, .nils, .nils, .nils, .nils, .nils]]⟩, some ⟨26, [(List.map (osF 3 R3) out.toList)]⟩, some ⟨26, [[.nils, .nils, .nils, .nils, .nils, .nils, .nils, .nils, .nils, .nils, .nils, .nils, .nils, .nils, .nils, .nils]]⟩]⟩) h (fun h => ?_) (fun j h => ?_)
   ·
    refine T_keep (kc 1 rfl <| kc 2 rfl <| kc 4 rfl <| kc 6 rfl <| kc 7 rfl <| kc 10 rfl <| kn) rfl ?_
    refine T_seq (T_reg ?_)
    refine R_q _ rfl (v_move (ov rfl)) ?_
    refine R_nil ?_
    refine T_block ?_
    obtain ⟨r1, hl1, ho1⟩ := bndL h
    refine T_loopG _ (t2 fun out2 i => ⟨[(1, .sl 3 (List.map R3 l)), (2, .rp [.int .i64 m.Version, .sl 43 (List.map R43 m.Params)] 0), (4, .ptr 0 1 0 0), (6, .ptr 1 1 0 0), (7, .ptr 2 1 0 0), (10, .sl 54 (List.map R54 y2)), (36, .int .i64 i)], [some ⟨26, [[.nils, .nils, .nils, .nils, .nils, .nils, .nils, .nils, .nils, .nils, .nils, .nils, .nils, .nils, .nils, .nils]]⟩, some ⟨26, [(List.map (osF 3 R3) out2.toList)]⟩, some ⟨26, [[.nils, .nils, .nils, .nils, .nils, .nils, .nils, .nils, .nils, .nils, .nils, .nils, .nils, .nils, .nils, .nils]]⟩]⟩) _ hl1 (Ent.sel [some 0, some 1, some 2] (sd 1 rfl rfl <| sd 2 rfl rfl <| sr 4 rfl (.ptr _ _ _ rfl) <| sr 6 rfl (.ptr _ _ _ rfl) <| sr 7 rfl (.ptr _ _ _ rfl) <| sd 10 rfl rfl <| sd 36 rfl rfl <| sn) (.cons rfl (roZZ (by exact tZ_26.symm) rfl) <| .cons rfl (roZN rfl tZ_26) <| .cons rfl (roZZ (by exact tZ_26.symm) rfl) <| .nil) rfl rfl) (fun n1 s1 h => ?_)
    obtain ⟨out2, i⟩ := s1
    replace h := t2i h
    refine t2T ?_
    unfold layout_Pack_L1 at h
    refine T_seq (T_reg ?_)
    refine R_q _ rfl (v_lss (ov rfl) (ov rfl)) ?_
    refine R_nil ?_
    refine T_seq ?_
    refine T_if h rfl (fun b37 h => ?_) (fun b37 h => ?_)
    ·
     refine T_skip ?_
     refine T_seq ?_
     refine T_block ?_
     refine T_keep (kc 1 rfl <| kc 2 rfl <| kc 4 rfl <| kc 6 rfl <| kc 7 rfl <| kc 10 rfl <| kc 36 rfl <| kn) rfl ?_
     refine T_seq (T_reg ?_)
     refine R_q _ rfl (v_move (ov rfl)) ?_
     refine R_q _ rfl (v_assign (ov rfl)) ?_
     refine R_nil ?_
     refine T_keep (kc 1 rfl <| kc 2 rfl <| kc 4 rfl <| kc 6 rfl <| kc 7 rfl <| kc 10 rfl <| kc 11 rfl <| kc 36 rfl <| kn) rfl ?_
     refine T_seq (T_reg ?_)
     refine R_q _ rfl (v_move (ov rfl)) ?_
     obtain ⟨l2, h_l2, h⟩ := bnd h
     refine R_w _ _ rfl (w_makeG [none] (r := 3) (f := R3) (z0 := 0) rfl (ov rfl) (ov rfl) tL25 rfl tZ3 rfl rfl h_l2) ?_
     obtain ⟨x, h_x, h⟩ := bnd h
     refine R_q _ rfl (v_ixAG (ov rfl) (ov rfl) tR26 rfl rfl h_x) ?_
     refine R_w _ _ rfl (w_store (ov rfl) (ov rfl) (cells_scal tS25) rfl rfl rfl (arB h_x) (cell1_all rfl) (arSetS h_x)) ?_
     refine R_ent (Ent.absorbA (r := 1) (q := 3) rfl h_x rfl rfl rfl) ?_
     refine R_nil ?_
     refine T_keep (kc 1 rfl <| kc 2 rfl <| kc 4 rfl <| kc 6 rfl <| kc 7 rfl <| kc 10 rfl <| kc 11 rfl <| kc 36 rfl <| kn) rfl ?_
     obtain ⟨l3, h_l3, h⟩ := bnd h
     refine T_ent (Ent.focusA (r := 1) rfl h_l3 D3) ?_
     refine T_draw (cw := md0) (by kernel_rfl) ?_
     refine D_q0 0 _ rfl (by kernel_rfl) rfl rfl (v_move (ov rfl)) ?_
     obtain ⟨x2, h_x2, h⟩ := bnd h
     refine D_q0 1 _ rfl (by kernel_rfl) rfl rfl (v_ixAG (ov rfl) (ov rfl) tR26 rfl rfl h_x2) ?_
     refine D_q0 2 _ rfl (by kernel_rfl) rfl rfl (v_loadS (ov rfl) rfl rfl rfl tS25 (arSetG h_l3)) ?_
     refine D_q0 3 _ rfl (by kernel_rfl) rfl rfl (v_fieldR (ov rfl) tF24_0) ?_
     refine D_q0 4 _ rfl (by kernel_rfl) rfl rfl (v_loadS_r (ov rfl) tS3 rfl) ?_
     obtain ⟨x3, h_x3, h⟩ := bnd h
     refine D_q0 5 _ rfl (by kernel_rfl) rfl rfl (v_ixOG (ov rfl) (ov rfl) tL25 rfl rfl h_x3) ?_
     refine D_one 6 _ _ rfl (by kernel_rfl) rfl rfl (fun h => by cases h) (fun h => by cases h) (w_storeR (u' := m.Version) (ov rfl) (ov rfl) (cells_scal tS3) rfl rfl h_x3 rfl (cell1_all rfl) rfl) ?_
     refine D_done (by kernel_rfl) ?_
     refine T_ent (Ent.absorbA (r := 1) (q := 4) rfl h_l3 rfl ((List.length_set ..).trans rfl) rfl) ?_
     refine T_keep (kc 1 rfl <| kc 2 rfl <| kc 4 rfl <| kc 6 rfl <| kc 7 rfl <| kc 10 rfl <| kc 36 rfl <| kn) rfl ?_
     refine T_reg ?_
     refine R_q _ rfl (v_add (ov rfl) (ov rfl) rfl) ?_
     refine R_q _ rfl (v_move (ov rfl)) ?_
     refine R_nil ?_
     exact ⟨((vset (vset out2 i l2) i (l3.set (Int.toNat 0) m.Version)), (i64 (i + 1))), h, Ent.sel [some 0, some 1, some 2] (sd 1 rfl rfl <| sd 2 rfl rfl <| sr 4 rfl (.ptr _ _ _ rfl) <| sr 6 rfl (.ptr _ _ _ rfl) <| sr 7 rfl (.ptr _ _ _ rfl) <| sd 10 rfl rfl <| sd 36 rfl rfl <| sn) (.cons rfl (roZZ (by exact tZ_26.symm) rfl) <| .cons rfl (roNN tZ_26 D3) <| .cons rfl (roZZ (by exact tZ_26.symm) rfl) <| .nil) rfl rfl⟩
    ·
     refine T_exit ?_
     rw [lx h] at ho1
     replace h := ho1
     exact ⟨out2, h, Ent.sel [some 0, some 1, some 2] (sd 1 rfl rfl <| sd 2 rfl rfl <| sr 4 rfl (.ptr _ _ _ rfl) <| sr 6 rfl (.ptr _ _ _ rfl) <| sr 7 rfl (.ptr _ _ _ rfl) <| sd 10 rfl rfl <| sn) (.cons rfl (roZZ (by exact tZ_26.symm) rfl) <| .cons rfl (roNN tZ_26 D3) <| .cons rfl (roZZ (by exact tZ_26.symm) rfl) <| .nil) rfl rfl⟩
   ·
    obtain ⟨out, rfl⟩ : ∃ x, x = j := ⟨_, rfl⟩
    replace h := t1i h
    refine t1T ?_
    refine T_joinG (fun j => (.inr j)) (t1 fun out3 => ⟨[(4, .ptr 0 1 0 0), (6, .ptr 1 1 0 0)], [some ⟨26, [[.nils, .nils, .nils, .nils, .nils, .nils, .nils, .nils, .nils, .nils, .nils, .nils, .nils, .nils, .nils, .nils]]⟩, some ⟨26, [(List.map (osF 3 R3) out3.toList)]⟩]⟩) h (fun h => ?_) (fun j h => ?_)
    ·
     refine T_seq (T_reg ?_)
     refine R_q _ rfl (v_move (ov rfl)) ?_
     refine R_q _ rfl (v_len (slv_sl (ov rfl) tZ_54) tL62 (len_map _ _)) ?_
     refine R_q _ rfl (v_move (ov rfl)) ?_
     refine R_nil ?_
     refine T_block ?_
     obtain ⟨r2, hl2, ho2⟩ := bndL h
     refine T_loopG _ (t2 fun out4 i2 => ⟨[(1, .sl 3 (List.map R3 l)), (2, .rp [.int .i64 m.Version, .sl 43 (List.map R43 m.Params)] 0), (4, .ptr 0 1 0 0), (6, .ptr 1 1 0 0), (7, .ptr 2 1 0 0), (49, .sl 54 (List.map R54 y2)), (50, .int .i64 (y2.length : Int)), (51, .int .i64 i2)], [some ⟨26, [[.nils, .nils, .nils, .nils, .nils, .nils, .nils, .nils, .nils, .nils, .nils, .nils, .nils, .nils, .nils, .nils]]⟩, some ⟨26, [(List.map (osF 3 R3) out4.toList)]⟩, some ⟨26, [[.nils, .nils, .nils, .nils, .nils, .nils, .nils, .nils, .nils, .nils, .nils, .nils, .nils, .nils, .nils, .nils]]⟩]⟩) _ hl2 (Ent.sel [some 0, some 1, some 2] (sd 1 rfl rfl <| sd 2 rfl rfl <| sr 4 rfl (.ptr _ _ _ rfl) <| sr 6 rfl (.ptr _ _ _ rfl) <| sr 7 rfl (.ptr _ _ _ rfl) <| sd 49 rfl rfl <| sd 50 rfl rfl <| sd 51 rfl rfl <| sn) (.cons rfl (roZZ (by exact tZ_26.symm) rfl) <| .cons rfl (roNN tZ_26 D3) <| .cons rfl (roZZ (by exact tZ_26.symm) rfl) <| .nil) rfl rfl) (fun n2 s2 h => ?_)
     obtain ⟨out4, i2⟩ := s2
     replace h := t2i h
     refine t2T ?_
     unfold layout_Pack_L2 at h
     refine T_seq (T_reg ?_)
     refine R_q _ rfl (v_lss (ov rfl) (ov rfl)) ?_
     refine R_nil ?_
     refine T_seq ?_
     refine T_if h rfl (fun b52 h => ?_) (fun b52 h => ?_)
     ·
      refine T_skip ?_
      refine T_joinG (fun j => (.inr j)) (t1 fun out5 => ⟨[(1, .sl 3 (List.map R3 l)), (2, .rp [.int .i64 m.Version, .sl 43 (List.map R43 m.Params)] 0), (4, .ptr 0 1 0 0), (6, .ptr 1 1 0 0), (7, .ptr 2 1 0 0), (49, .sl 54 (List.map R54 y2)), (50, .int .i64 (y2.length : Int)), (51, .int .i64 i2)], [some ⟨26, [[.nils, .nils, .nils, .nils, .nils, .nils, .nils, .nils, .nils, .nils, .nils, .nils, .nils, .nils, .nils, .nils]]⟩, some ⟨26, [(List.map (osF 3 R3) out5.toList)]⟩, some ⟨26, [[.nils, .nils, .nils, .nils, .nils, .nils, .nils, .nils, .nils, .nils, .nils, .nils, .nils, .nils, .nils, .nils]]⟩]⟩) h (fun h => ?_) (fun j h => ?_)
      ·
       refine T_block ?_
       refine T_keep (kc 1 rfl <| kc 2 rfl <| kc 4 rfl <| kc 6 rfl <| kc 7 rfl <| kc 49 rfl <| kc 50 rfl <| kc 51 rfl <| kn) rfl ?_
       refine T_seq (T_reg ?_)
       refine R_q _ rfl (v_move (ov rfl)) ?_
       obtain ⟨x4, h_x4, h⟩ := bnd h
       refine R_q _ rfl (v_ixSG (ov rfl) (ov rfl) tL62 h_x4) ?_
       refine R_q _ rfl (v_loadA_r (ov rfl) tA54 rfl rfl) ?_
       refine R_w _ _ rfl (w_alloc (row := [_, _, _, _]) 3 rfl tZ54 rfl tZ_54) ?_
       refine R_q _ rfl (v_assign (ov rfl)) ?_
       refine R_w _ _ rfl (w_store (ov rfl) (ov rfl) (cells_agg tA54 rfl) rfl rfl rfl (Nat.le_of_ble_eq_true rfl) (cell1_all rfl) rfl) ?_
       refine R_nil ?_
       refine T_keep (kc 1 rfl <| kc 2 rfl <| kc 4 rfl <| kc 6 rfl <| kc 7 rfl <| kc 12 rfl <| kc 13 rfl <| kc 49 rfl <| kc 50 rfl <| kc 51 rfl <| kn) rfl ?_
       refine T_seq (T_reg ?_)
       refine R_q _ rfl (v_fieldR (ov rfl) tF24_1) ?_
       refine R_q _ rfl (v_loadS_r (ov rfl) tS22 rfl) ?_
       refine R_q _ rfl (v_fieldP (ov rfl) rfl rfl tF54_0) ?_
       refine R_q _ rfl (v_loadS (ov rfl) rfl rfl rfl tS3 rfl) ?_
       obtain ⟨x5, h_x5, h⟩ := bnd h
       refine R_q _ rfl (v_ixSG (ov rfl) (ov rfl) tL22 h_x5) ?_
       refine R_q _ rfl (v_loadA_r (ov rfl) tA43 rfl rfl) ?_
       obtain ⟨y3, h_y3, h⟩ := bnd h
       refine R_q _ rfl (v_call (ok_layout_numberOf h_y3) (.cons (ov rfl) (.aggB rfl) <| .nil)) ?_
       refine R_w _ _ rfl (w_alloc (row := [_, _, _, _]) 4 rfl tZ102 rfl tZ_102) ?_
       refine R_w _ _ rfl (w_store (ov rfl) (ov rfl) (cells_agg tA102 rfl) rfl rfl rfl (Nat.le_of_ble_eq_true rfl) (cell1_all rfl) rfl) ?_
       refine R_nil ?_
       refine T_seq ?_
       refine T_keep (kc 1 rfl <| kc 2 rfl <| kc 4 rfl <| kc 6 rfl <| kc 7 rfl <| kc 12 rfl <| kc 13 rfl <| kc 14 rfl <| kc 49 rfl <| kc 50 rfl <| kc 51 rfl <| kn) rfl ?_
       refine T_seq (T_draw (cw := md0) (by kernel_rfl) ?_)
       refine D_q0 0 _ rfl (by kernel_rfl) rfl rfl (v_move (ov rfl)) ?_
       refine D_q0 1 _ rfl (by kernel_rfl) rfl rfl (v_move (ov rfl)) ?_
       obtain ⟨x6, h_x6, h⟩ := bnd h
       refine D_q0 2 _ rfl (by kernel_rfl) rfl rfl (v_ixSG (ov rfl) (ov rfl) tL25 h_x6) ?_
       refine D_q0 3 _ rfl (by kernel_rfl) rfl rfl (v_loadS_r (ov rfl) tS3 rfl) ?_
       refine D_q0 4 _ rfl (by kernel_rfl) rfl rfl (v_fieldP (ov rfl) rfl rfl tF102_0) ?_
       refine D_q0 5 _ rfl (by kernel_rfl) rfl rfl (v_loadS (ov rfl) rfl rfl rfl tS3 rfl) ?_
       refine D_q0 6 _ rfl (by kernel_rfl) rfl rfl (v_fieldP (ov rfl) rfl rfl tF102_1) ?_
       refine D_q0 7 _ rfl (by kernel_rfl) rfl rfl (v_loadS (ov rfl) rfl rfl rfl tS3 rfl) ?_
       obtain ⟨y4, h_y4, h⟩ := bnd h
       refine D_q0 8 _ rfl (by kernel_rfl) rfl rfl (v_call (ok_layout_within h_y4) (.cons (ov rfl) (.b rfl) <| .cons (ov rfl) (.b rfl) <| .cons (ov rfl) (.b rfl) <| .nil)) ?_
       refine D_q0 9 _ rfl (by kernel_rfl) rfl rfl (v_not (ov rfl)) ?_
       refine D_done (by kernel_rfl) ?_
       refine T_keep (kc 1 rfl <| kc 2 rfl <| kc 4 rfl <| kc 6 rfl <| kc 7 rfl <| kc 12 rfl <| kc 13 rfl <| kc 14 rfl <| kc 49 rfl <| kc 50 rfl <| kc 51 rfl <| kc 72 rfl <| kn) rfl ?_
       refine T_if h rfl (fun b72 h => ?_) (fun b72 h => ?_)
       ·
        refine T_keep (kc 4 rfl <| kc 7 rfl <| kn) rfl ?_
        refine T_seq (T_reg ?_)
        refine R_q _ rfl (v_loadA (ov rfl) rfl rfl rfl tA26 rfl rfl) ?_
        refine R_w _ _ rfl (w_store (ov rfl) (ov rfl) (cells_agg tA26 rfl) rfl rfl rfl (Nat.le_of_ble_eq_true rfl) (cell1_all rfl) rfl) ?_
        refine R_q _ rfl (v_assign (ov rfl)) ?_
        refine R_nil ?_
        rw [lx h] at ho2
        replace h := ho2
        obtain rfl := rt (v := ((Vector.replicate 16 []), 9)) h
        refine T_ret (retq ?_ (.two (.agg rfl rfl rfl rfl tA26 rfl rfl (pwZ (m := 16) (f := C25) rfl rfl)) (.tmp rfl (Dat.view (.b rfl)))))
        rfl
       ·
        refine T_skip ?_
        refine T_keep (kc 1 rfl <| kc 2 rfl <| kc 4 rfl <| kc 6 rfl <| kc 7 rfl <| kc 12 rfl <| kc 13 rfl <| kc 14 rfl <| kc 49 rfl <| kc 50 rfl <| kc 51 rfl <| kn) rfl ?_
        refine T_seq (T_draw (cw := md0) (by kernel_rfl) ?_)
        refine D_q0 0 _ rfl (by kernel_rfl) rfl rfl (v_fieldP (ov rfl) rfl rfl tF102_2) ?_
        refine D_q0 1 _ rfl (by kernel_rfl) rfl rfl (v_loadS (ov rfl) rfl rfl rfl tS99 rfl) ?_
        refine D_q0 2 _ rfl (by kernel_rfl) rfl rfl (v_move (ov rfl)) ?_
        refine D_q0 3 _ rfl (by kernel_rfl) rfl rfl (v_move (ov rfl)) ?_
        obtain ⟨x7, h_x7, h⟩ := bnd h
        refine D_q0 4 _ rfl (by kernel_rfl) rfl rfl (v_ixSG (ov rfl) (ov rfl) tL25 h_x7) ?_
        refine D_q0 5 _ rfl (by kernel_rfl) rfl rfl (v_loadS_r (ov rfl) tS3 rfl) ?_
        obtain ⟨y5, h_y5, h⟩ := bnd h
        refine D_q0 6 _ rfl (by kernel_rfl) rfl rfl (v_callC (ov rfl) (((fok_layout_numberOf h_y3).1)).1 ((((fok_layout_numberOf h_y3).1)).2 _ _ h_y5) (.cons (ov rfl) (.b rfl) <| .nil)) ?_
        refine D_q0 7 _ rfl (by kernel_rfl) rfl rfl (v_fieldR (ov rfl) tF24_1) ?_
        refine D_q0 8 _ rfl (by kernel_rfl) rfl rfl (v_loadS_r (ov rfl) tS22 rfl) ?_
        refine D_q0 9 _ rfl (by kernel_rfl) rfl rfl (v_fieldP (ov rfl) rfl rfl tF54_0) ?_
        refine D_q0 10 _ rfl (by kernel_rfl) rfl rfl (v_loadS (ov rfl) rfl rfl rfl tS3 rfl) ?_
        obtain ⟨x8, h_x8, h⟩ := bnd h
        refine D_q0 11 _ rfl (by kernel_rfl) rfl rfl (v_ixSG (ov rfl) (ov rfl) tL22 h_x8) ?_
        refine D_q0 12 _ rfl (by kernel_rfl) rfl rfl (v_loadA_r (ov rfl) tA43 rfl rfl) ?_
        obtain ⟨y6, h_y6, h⟩ := bnd h
        refine D_q0 13 _ rfl (by kernel_rfl) rfl rfl (v_call (ok_layout_bitsOf h_y6) (.cons (ov rfl) (.aggB rfl) <| .nil)) ?_
        refine D_q0 14 _ rfl (by kernel_rfl) rfl rfl (v_assign (ov rfl)) ?_
        refine D_q0 15 _ rfl (by kernel_rfl) rfl rfl (v_assign (ov rfl)) ?_
        refine D_done (by kernel_rfl) ?_
        refine T_keep (kc 1 rfl <| kc 2 rfl <| kc 4 rfl <| kc 6 rfl <| kc 7 rfl <| kc 13 rfl <| kc 15 rfl <| kc 16 rfl <| kc 49 rfl <| kc 50 rfl <| kc 51 rfl <| kn) rfl ?_
        refine T_seq (T_reg ?_)
        refine R_q _ rfl (v_fieldP (ov rfl) rfl rfl tF54_3) ?_
        refine R_q _ rfl (v_loadS (ov rfl) rfl rfl rfl tS52 rfl) ?_
        refine R_q _ rfl (v_len (slv_sl (ov rfl) tZ_66) tL52 (len_map _ _)) ?_
        refine R_q _ rfl (v_move (ov rfl)) ?_
        refine R_nil ?_
        refine T_block ?_
        obtain ⟨r3, hl3, ho3⟩ := bnd h
        refine T_loopG _ (t3 fun out6 left i3 => ⟨[(1, .sl 3 (List.map R3 l)), (2, .rp [.int .i64 m.Version, .sl 43 (List.map R43 m.Params)] 0), (4, .ptr 0 1 0 0), (6, .ptr 1 1 0 0), (7, .ptr 2 1 0 0), (15, .int .i64 y5), (16, .int .i64 left), (49, .sl 54 (List.map R54 y2)), (50, .int .i64 (y2.length : Int)), (51, .int .i64 i2), (89, .sl 66 (List.map R66 x4.Places)), (90, .int .i64 (x4.Places.length : Int)), (91, .int .i64 i3)], [some ⟨26, [[.nils, .nils, .nils, .nils, .nils, .nils, .nils, .nils, .nils, .nils, .nils, .nils, .nils, .nils, .nils, .nils]]⟩, some ⟨26, [(List.map (osF 3 R3) out6.toList)]⟩, some ⟨26, [[.nils, .nils, .nils, .nils, .nils, .nils, .nils, .nils, .nils, .nils, .nils, .nils, .nils, .nils, .nils, .nils]]⟩]⟩) _ hl3 (Ent.sel [some 0, some 1, some 2] (sd 1 rfl rfl <| sd 2 rfl rfl <| sr 4 rfl (.ptr _ _ _ rfl) <| sr 6 rfl (.ptr _ _ _ rfl) <| sr 7 rfl (.ptr _ _ _ rfl) <| sd 15 rfl rfl <| sd 16 rfl rfl <| sd 49 rfl rfl <| sd 50 rfl rfl <| sd 51 rfl rfl <| sd 89 rfl rfl <| sd 90 rfl rfl <| sd 91 rfl rfl <| sn) (.cons rfl (roZZ (by exact tZ_26.symm) rfl) <| .cons rfl (roNN tZ_26 D3) <| .cons rfl (roZZ (by exact tZ_26.symm) rfl) <| .nil) rfl rfl) (fun n3 s3 h => ?_)
        obtain ⟨out6, left, i3⟩ := s3
        replace h := t3i h
        refine t3T ?_
        unfold layout_Pack_L3 at h
        refine T_seq (T_reg ?_)
        refine R_q _ rfl (v_lss (ov rfl) (ov rfl)) ?_
        refine R_nil ?_
        refine T_seq ?_
        refine T_if h rfl (fun b92 h => ?_) (fun b92 h => ?_)
        ·
         refine T_skip ?_
         refine T_seq ?_
         refine T_block ?_
         refine T_keep (kc 1 rfl <| kc 2 rfl <| kc 4 rfl <| kc 6 rfl <| kc 7 rfl <| kc 15 rfl <| kc 16 rfl <| kc 49 rfl <| kc 50 rfl <| kc 51 rfl <| kc 89 rfl <| kc 90 rfl <| kc 91 rfl <| kn) rfl ?_
         refine T_seq (T_reg ?_)
         obtain ⟨x9, h_x9, h⟩ := bnd h
         refine R_q _ rfl (v_ixSG (ov rfl) (ov rfl) tL52 h_x9) ?_
         refine R_q _ rfl (v_loadA_r (ov rfl) tA66 rfl rfl) ?_
         refine R_w _ _ rfl (w_alloc (row := [_, _, _, _]) 3 rfl tZ66 rfl tZ_66) ?_
         refine R_w _ _ rfl (w_store (ov rfl) (ov rfl) (cells_agg tA66 rfl) rfl rfl rfl (Nat.le_of_ble_eq_true rfl) (cell1_all rfl) rfl) ?_
         refine R_nil ?_
         refine T_keep (kc 1 rfl <| kc 2 rfl <| kc 4 rfl <| kc 6 rfl <| kc 7 rfl <| kc 15 rfl <| kc 16 rfl <| kc 18 rfl <| kc 49 rfl <| kc 50 rfl <| kc 51 rfl <| kc 89 rfl <| kc 90 rfl <| kc 91 rfl <| kn) rfl ?_
         refine T_seq (T_reg ?_)
         refine R_q _ rfl (v_move (ov rfl)) ?_
         refine R_q _ rfl (v_fieldP (ov rfl) rfl rfl tF66_3) ?_
         refine R_q _ rfl (v_loadS (ov rfl) rfl rfl rfl tS3 rfl) ?_
         refine R_q _ rfl (v_sub (ov rfl) (ov rfl) rfl) ?_
         refine R_q _ rfl (v_assign (ov rfl)) ?_
         refine R_nil ?_
         refine T_keep (kc 1 rfl <| kc 2 rfl <| kc 4 rfl <| kc 6 rfl <| kc 7 rfl <| kc 15 rfl <| kc 16 rfl <| kc 18 rfl <| kc 49 rfl <| kc 50 rfl <| kc 51 rfl <| kc 89 rfl <| kc 90 rfl <| kc 91 rfl <| kn) rfl ?_
         obtain ⟨l4, h_l4, h⟩ := bnd h
         refine T_ent (Ent.focusA (r := 1) rfl h_l4 D3) ?_
         refine T_draw (cw := md0) (by kernel_rfl) ?_
         refine D_q0 0 _ rfl (by kernel_rfl) rfl rfl (v_fieldP (ov rfl) rfl rfl tF66_0) ?_
         refine D_q0 1 _ rfl (by kernel_rfl) rfl rfl (v_loadS (ov rfl) rfl rfl rfl tS3 rfl) ?_
         obtain ⟨x10, h_x10, h⟩ := bnd h
         refine D_q0 2 _ rfl (by kernel_rfl) rfl rfl (v_ixAG (ov rfl) (ov rfl) tR26 rfl rfl h_x10) ?_
         refine D_q0 3 _ rfl (by kernel_rfl) rfl rfl (v_loadS (ov rfl) rfl rfl rfl tS25 (arSetG h_l4)) ?_
         refine D_q0 4 _ rfl (by kernel_rfl) rfl rfl (v_fieldP (ov rfl) rfl rfl tF66_1) ?_
         refine D_q0 5 _ rfl (by kernel_rfl) rfl rfl (v_loadS (ov rfl) rfl rfl rfl tS3 rfl) ?_
         refine D_q0 6 _ rfl (by kernel_rfl) rfl rfl (v_sub (ov rfl) (ov rfl) rfl) ?_
         obtain ⟨x11, h_x11, h⟩ := bnd h
         refine D_q0 7 _ rfl (by kernel_rfl) rfl rfl (v_ixOG (ov rfl) (ov rfl) tL25 rfl rfl h_x11) ?_
         refine D_q0 8 _ rfl (by kernel_rfl) rfl rfl (v_loadSR (ov rfl) rfl rfl h_x11 tS3 rfl) ?_
         refine D_q0 9 _ rfl (by kernel_rfl) rfl rfl (v_move (ov rfl)) ?_
         refine D_q0 10 _ rfl (by kernel_rfl) rfl rfl (v_move (ov rfl)) ?_
         obtain ⟨q, h_q, h⟩ := bnd h
         refine D_q0 11 _ rfl (by kernel_rfl) rfl rfl (v_shrG (ov rfl) (ov rfl) h_q) ?_
         refine D_q0 12 _ rfl (by kernel_rfl) rfl rfl (v_fieldP (ov rfl) rfl rfl tF66_3) ?_
         refine D_q0 13 _ rfl (by kernel_rfl) rfl rfl (v_loadS (ov rfl) rfl rfl rfl tS3 rfl) ?_
         obtain ⟨q2, h_q2, h⟩ := bnd h
         refine D_q0 14 _ rfl (by kernel_rfl) rfl rfl (v_shlG (ov rfl) (ov rfl) h_q2) ?_
         refine D_q0 15 _ rfl (by kernel_rfl) rfl rfl (v_sub (ov rfl) (ov rfl) rfl) ?_
         refine D_q0 16 _ rfl (by kernel_rfl) rfl rfl (v_and_ (ov rfl) (ov rfl)) ?_
         refine D_q0 17 _ rfl (by kernel_rfl) rfl rfl (v_fieldP (ov rfl) rfl rfl tF66_2) ?_
         refine D_q0 18 _ rfl (by kernel_rfl) rfl rfl (v_loadS (ov rfl) rfl rfl rfl tS3 rfl) ?_
         obtain ⟨q3, h_q3, h⟩ := bnd h
         refine D_q0 19 _ rfl (by kernel_rfl) rfl rfl (v_shlG (ov rfl) (ov rfl) h_q3) ?_
         refine D_q0 20 _ rfl (by kernel_rfl) rfl rfl (v_or_ (ov rfl) (ov rfl)) ?_
         obtain ⟨x12, h_x12, h⟩ := bnd h
         refine D_q0 21 _ rfl (by kernel_rfl) rfl rfl (v_ixOG (ov rfl) (ov rfl) tL25 rfl rfl h_x12) ?_
         refine D_one 22 _ _ rfl (by kernel_rfl) rfl rfl (fun h => by cases h) (fun h => by cases h) (w_storeR (u' := (bor .i64 x11 q3)) (ov rfl) (ov rfl) (cells_scal tS3) rfl rfl h_x12 rfl (cell1_all rfl) rfl) ?_
         refine D_done (by kernel_rfl) ?_
         refine T_ent (Ent.absorbA (r := 1) (q := 4) rfl h_l4 rfl ((List.length_set ..).trans rfl) rfl) ?_
         refine T_keep (kc 1 rfl <| kc 2 rfl <| kc 4 rfl <| kc 6 rfl <| kc 7 rfl <| kc 15 rfl <| kc 16 rfl <| kc 49 rfl <| kc 50 rfl <| kc 51 rfl <| kc 89 rfl <| kc 90 rfl <| kc 91 rfl <| kn) rfl ?_
         refine T_reg ?_
         refine R_q _ rfl (v_add (ov rfl) (ov rfl) rfl) ?_
         refine R_q _ rfl (v_move (ov rfl)) ?_
         refine R_nil ?_
         exact ⟨((vset out6 x9.Frame (l4.set (i64 (x9.Word - 3)).toNat (bor .i64 x11 q3))), (i64 (left - x9.Bits)), (i64 (i3 + 1))), h, Ent.sel [some 0, some 1, some 2] (sd 1 rfl rfl <| sd 2 rfl rfl <| sr 4 rfl (.ptr _ _ _ rfl) <| sr 6 rfl (.ptr _ _ _ rfl) <| sr 7 rfl (.ptr _ _ _ rfl) <| sd 15 rfl rfl <| sd 16 rfl rfl <| sd 49 rfl rfl <| sd 50 rfl rfl <| sd 51 rfl rfl <| sd 89 rfl rfl <| sd 90 rfl rfl <| sd 91 rfl rfl <| sn) (.cons rfl (roZZ (by exact tZ_26.symm) rfl) <| .cons rfl (roNN tZ_26 D3) <| .cons rfl (roZZ (by exact tZ_26.symm) rfl) <| .nil) rfl rfl⟩
        ·
         refine T_exit ?_
         rw [lx h] at ho3
         replace h := ho3
         exact ⟨out6, h, Ent.sel [some 0, some 1, some 2] (sd 1 rfl rfl <| sd 2 rfl rfl <| sr 4 rfl (.ptr _ _ _ rfl) <| sr 6 rfl (.ptr _ _ _ rfl) <| sr 7 rfl (.ptr _ _ _ rfl) <| sd 49 rfl rfl <| sd 50 rfl rfl <| sd 51 rfl rfl <| sn) (.cons rfl (roZZ (by exact tZ_26.symm) rfl) <| .cons rfl (roNN tZ_26 D3) <| .cons rfl (roZZ (by exact tZ_26.symm) rfl) <| .nil) rfl rfl⟩
      ·
       replace h := elr h
       obtain ⟨out5, rfl⟩ : ∃ x, x = j := ⟨_, rfl⟩
       replace h := t1i h
       refine t1T ?_
       refine T_reg ?_
       refine R_q _ rfl (v_add (ov rfl) (ov rfl) rfl) ?_
       refine R_q _ rfl (v_move (ov rfl)) ?_
       refine R_nil ?_
       exact ⟨(out5, (i64 (i2 + 1))), h, Ent.sel [some 0, some 1, some 2] (sd 1 rfl rfl <| sd 2 rfl rfl <| sr 4 rfl (.ptr _ _ _ rfl) <| sr 6 rfl (.ptr _ _ _ rfl) <| sr 7 rfl (.ptr _ _ _ rfl) <| sd 49 rfl rfl <| sd 50 rfl rfl <| sd 51 rfl rfl <| sn) (.cons rfl (roZZ (by exact tZ_26.symm) rfl) <| .cons rfl (roNN tZ_26 D3) <| .cons rfl (roZZ (by exact tZ_26.symm) rfl) <| .nil) rfl rfl⟩
     ·
      refine T_exit ?_
      rw [lx h] at ho2
      replace h := ho2
      exact ⟨out4, h, Ent.sel [some 0, some 1] (sr 4 rfl (.ptr _ _ _ rfl) <| sr 6 rfl (.ptr _ _ _ rfl) <| sn) (.cons rfl (roZZ (by exact tZ_26.symm) rfl) <| .cons rfl (roNN tZ_26 D3) <| .nil) rfl rfl⟩
    ·
     replace h := elr h
     obtain ⟨out3, rfl⟩ : ∃ x, x = j := ⟨_, rfl⟩
     replace h := t1i h
     refine t1T ?_
     refine T_seq (T_reg ?_)
     refine R_ent (Ent.meltA (r := 1) (f := C25) rfl tZ_26 (fun _ => rfl) D3) ?_
     refine R_q _ rfl (v_loadA (ov rfl) rfl rfl rfl tA26 arW arL) ?_
     refine R_w _ _ rfl (w_store (ov rfl) (ov rfl) (cells_agg tA26 arL) rfl rfl rfl (Nat.le_of_eq (by simp)) (cell1_all (arC fun _ => rfl)) (arWhole (by simp))) ?_
     refine R_q _ rfl (v_assign (ov rfl)) ?_
     refine R_nil ?_
     obtain rfl := rt (v := (out3, 0)) h
     refine T_ret (retq ?_ (.two (.agg rfl rfl rfl rfl tA26 arW arL (pwB (arD fun _ => rfl))) (.tmp rfl (Dat.view (.b rfl)))))
     rfl

theorem ok_slices_IndexFunc_int_int {s : List Int} {f : Int → Option Bool} {r : Int} {f_f : FuncId} {f_c : List AV} (f_d : f_c.all datB = true) (f_h : ∀ (z0 : Int) z, f z0 = some z → CSpec Try.prog gl0 f_f ([.int .i64 z0] ++ f_c) (.bool z)) (h : slices_IndexFunc_int_int s f = some r) :
  CSpec Try.prog gl0 120 [.sl 3 (List.map R3 s), .fn f_f f_c] (.int .i64 r) := by
 unfold slices_IndexFunc_int_int at h
 replace h := bnd0 h
 refine spec_of (by kernel_rfl) Try.func120 rfl rfl ?_
 intro w0 A
 refine T_seq (T_reg ?_)
 refine R_q _ rfl (v_assign (ov rfl)) ?_
 refine R_nil ?_
 refine T_joinG (fun j => (.inr j)) (t0 ⟨[], []⟩) h (fun h => ?_) (fun j h => ?_)
 ·
  refine T_keep (kc 0 rfl <| kc 1 rfl <| kn) rfl ?_
  refine T_seq (T_reg ?_)
  refine R_q _ rfl (v_move (ov rfl)) ?_
  refine R_q _ rfl (v_len (slv_sl (ov rfl) tZ_3) tL25 (len_map _ _)) ?_
  refine R_q _ rfl (v_move (ov rfl)) ?_
  refine R_nil ?_
  refine T_block ?_
  obtain ⟨r1, hl1, ho1⟩ := bndL h
  refine T_loopG _ (t1 fun i => ⟨[(0, .sl 3 (List.map R3 s)), (1, .fn f_f f_c), (7, .int .i64 (s.length : Int)), (8, .int .i64 i)], []⟩) _ hl1 (Ent.sel [] (sd 0 rfl rfl <| sr 1 rfl (rFn (rld f_d)) <| sd 7 rfl rfl <| sd 8 rfl rfl <| sn) (.nil) rfl rfl) (fun n1 s1 h => ?_)
  obtain ⟨i, rfl⟩ : ∃ x, x = s1 := ⟨_, rfl⟩
  replace h := t1i h
  refine t1T ?_
  unfold slices_IndexFunc_int_int_L1 at h
  refine T_seq (T_reg ?_)
  refine R_q _ rfl (v_lss (ov rfl) (ov rfl)) ?_
  refine R_nil ?_
  refine T_seq ?_
  refine T_if h rfl (fun b9 h => ?_) (fun b9 h => ?_)
  ·
   refine T_skip ?_
   refine T_seq ?_
   refine T_block ?_
   refine T_keep (kc 0 rfl <| kc 1 rfl <| kc 7 rfl <| kc 8 rfl <| kn) rfl ?_
   refine T_seq (T_reg ?_)
   refine R_q _ rfl (v_move (ov rfl)) ?_
   refine R_q _ rfl (v_assign (ov rfl)) ?_
   refine R_nil ?_
   refine T_keep (kc 0 rfl <| kc 1 rfl <| kc 5 rfl <| kc 7 rfl <| kc 8 rfl <| kn) rfl ?_
   refine T_seq (T_reg ?_)
   refine R_q _ rfl (v_move (ov rfl)) ?_
   refine R_q _ rfl (v_move (ov rfl)) ?_
   refine R_q _ rfl (v_move (ov rfl)) ?_
   obtain ⟨x, h_x, h⟩ := bnd h
   refine R_q _ rfl (v_ixSG (ov rfl) (ov rfl) tL25 h_x) ?_
   refine R_q _ rfl (v_loadS_r (ov rfl) tS3 rfl) ?_
   obtain ⟨y, h_y, h⟩ := bnd h
   refine R_q _ rfl (v_callC (ov rfl) f_d (f_h _ _ h_y) (.cons (ov rfl) (.b rfl) <| .nil)) ?_
   refine R_nil ?_
   refine T_keep (kc 0 rfl <| kc 1 rfl <| kc 5 rfl <| kc 7 rfl <| kc 8 rfl <| kc 16 rfl <| kn) rfl ?_
   refine T_if h rfl (fun b16 h => ?_) (fun b16 h => ?_)
   ·
    refine T_keep (kc 5 rfl <| kn) rfl ?_
    refine T_seq (T_reg ?_)
    refine R_q _ rfl (v_move (ov rfl)) ?_
    refine R_q _ rfl (v_assign (ov rfl)) ?_
    refine R_nil ?_
    rw [lx h] at ho1
    replace h := ho1
    obtain rfl := rt (v := i) h
    refine T_ret (retq ?_ (.one (.tmp rfl (Dat.view (.b rfl)))))
    rfl
   ·
    refine T_skip ?_
    refine T_keep (kc 0 rfl <| kc 1 rfl <| kc 7 rfl <| kc 8 rfl <| kn) rfl ?_
    refine T_reg ?_
    refine R_q _ rfl (v_add (ov rfl) (ov rfl) rfl) ?_
    refine R_q _ rfl (v_move (ov rfl)) ?_
    refine R_nil ?_
    exact ⟨(i64 (i + 1)), h, Ent.sel [] (sd 0 rfl rfl <| sr 1 rfl (rFn (rld f_d)) <| sd 7 rfl rfl <| sd 8 rfl rfl <| sn) (.nil) rfl rfl⟩
  ·
   refine T_exit ?_
   rw [lx h] at ho1
   replace h := ho1
   exact ⟨(), h, Ent.sel [] (sn) (.nil) rfl rfl⟩
 ·
  replace h := elr h
  cases j
  replace h := t0i h
  refine t0T ?_
  refine T_seq (T_reg ?_)
  refine R_q _ rfl (v_assign (ov rfl)) ?_
  refine R_nil ?_
  obtain rfl := rt (v := (-1)) h
  refine T_ret (retq ?_ (.one (.tmp rfl (Dat.view (.b rfl)))))
  rfl

theorem ok_slices_ContainsFunc_int_int {s : List Int} {f : Int → Option Bool} {r : Bool} {f_f : FuncId} {f_c : List AV} (f_d : f_c.all datB = true) (f_h : ∀ (z0 : Int) z, f z0 = some z → CSpec Try.prog gl0 f_f ([.int .i64 z0] ++ f_c) (.bool z)) (h : slices_ContainsFunc_int_int s f = some r) :
  CSpec Try.prog gl0 67 [.sl 3 (List.map R3 s), .fn f_f f_c] (.bool r) := by
 unfold slices_ContainsFunc_int_int at h
 replace h := bnd0 h
 refine spec_of (by kernel_rfl) Try.func67 rfl rfl ?_
 intro w0 A
 refine T_seq (T_reg ?_)
 refine R_q _ rfl (v_assign (ov rfl)) ?_
 refine R_nil ?_
 refine T_seq (T_reg ?_)
 refine R_q _ rfl (v_move (ov rfl)) ?_
 refine R_q _ rfl (v_move (ov rfl)) ?_
 obtain ⟨y, h_y, h⟩ := bnd h
 refine R_q _ rfl (v_call (ok_slices_IndexFunc_int_int f_d f_h h_y) (.cons (ov rfl) (.b rfl) <| .cons (ov rfl) (Dat.fnC (.refl fun x hx => .b (List.all_eq_true.1 f_d x hx))) <| .nil)) ?_
 refine R_q _ rfl (v_geq (ov rfl) (ov rfl)) ?_
 refine R_q _ rfl (v_assign (ov rfl)) ?_
 refine R_nil ?_
 obtain rfl := rt (v := (decide (0 ≤ y))) h
 refine T_ret (retq ?_ (.one (.tmp rfl (Dat.view (.b rfl)))))
 rfl

theorem ok_layout_Unpack_1 {d : Int} {r : Bool} (h : layout_Unpack_1 d = some r) :
  CSpec Try.prog gl0 68 [.int .i64 d] (.bool r) := by
 unfold layout_Unpack_1 at h
 replace h := bnd0 h
 refine spec_of (by kernel_rfl) Try.func68 rfl rfl ?_
 intro w0 A
 refine T_seq (T_reg ?_)
 refine R_q _ rfl (v_assign (ov rfl)) ?_
 refine R_nil ?_
 refine T_seq (T_reg ?_)
 refine R_q _ rfl (v_move (ov rfl)) ?_
 obtain ⟨y, h_y, h⟩ := bnd h
 refine R_q _ rfl (v_call (ok_layout_within h_y) (.cons (ov rfl) (.b rfl) <| .cons (ov rfl) (.b rfl) <| .cons (ov rfl) (.b rfl) <| .nil)) ?_
 refine R_q _ rfl (v_not (ov rfl)) ?_
 refine R_q _ rfl (v_assign (ov rfl)) ?_
 refine R_nil ?_
 obtain rfl := rt (v := (!y)) h
 refine T_ret (retq ?_ (.one (.tmp rfl (Dat.view (.b rfl)))))
 rfl

theorem ok_layout_rawOf {c_ : api_Cell} {l : Vector (List Int) 16} {r : Int} (h : layout_rawOf c_ l = some r) :
  CSpec Try.prog gl0 70 [.agg [.int .i64 c_.Param, .int .i64 c_.Index, .int .i64 c_.Frame, .sl 66 (List.map R66 c_.Places)], .agg (List.map C25 l.toList)] (.int .i64 r) := by
 unfold layout_rawOf at h
 replace h := bnd0 h
 refine spec_of (by kernel_rfl) Try.func70 rfl rfl ?_
 intro w0 A
 refine T_seq (T_reg ?_)
 refine R_q _ rfl (v_boxD (cva (ov rfl)) rfl tZ_54 rfl) ?_
 refine R_q _ rfl (v_boxD (cva (ov rfl)) arL tZ_26 (arD fun _ => rfl)) ?_
 refine R_q _ rfl (v_assign (ov rfl)) ?_
 refine R_nil ?_
 refine T_keep (kc 2 rfl <| kc 3 rfl <| kn) rfl ?_
 refine T_seq (T_reg ?_)
 refine R_q _ rfl (v_assign (ov rfl)) ?_
 refine R_nil ?_
 refine T_joinG id (t1 fun raw => ⟨[(5, .int .i64 raw)], []⟩) h (fun h => ?_) (fun j h => ?_)
 ·
  refine T_seq (T_reg ?_)
  refine R_q _ rfl (v_fieldR (ov rfl) tF54_3) ?_
  refine R_q _ rfl (v_loadS_r (ov rfl) tS52 rfl) ?_
  refine R_q _ rfl (v_len (slv_sl (ov rfl) tZ_66) tL52 (len_map _ _)) ?_
  refine R_q _ rfl (v_move (ov rfl)) ?_
  refine R_nil ?_
  refine T_block ?_
  obtain ⟨r1, hl1, ho1⟩ := bndL h
  refine T_loopG _ (t2 fun raw2 i => ⟨[(3, .rp (List.map C25 l.toList) 0), (5, .int .i64 raw2), (9, .sl 66 (List.map R66 c_.Places)), (10, .int .i64 (c_.Places.length : Int)), (11, .int .i64 i)], []⟩) _ hl1 (Ent.sel [] (sd 3 rfl rfl <| sd 5 rfl rfl <| sd 9 rfl rfl <| sd 10 rfl rfl <| sd 11 rfl rfl <| sn) (.nil) rfl rfl) (fun n1 s1 h => ?_)
  obtain ⟨raw2, i⟩ := s1
  replace h := t2i h
  refine t2T ?_
  unfold layout_rawOf_L1 at h
  refine T_seq (T_reg ?_)
  refine R_q _ rfl (v_lss (ov rfl) (ov rfl)) ?_
  refine R_nil ?_
  refine T_seq ?_
  refine T_if h rfl (fun b12 h => ?_) (fun b12 h => ?_)
  ·
   refine T_skip ?_
   refine T_seq ?_
   refine T_block ?_
   refine T_keep (kc 3 rfl <| kc 5 rfl <| kc 9 rfl <| kc 10 rfl <| kc 11 rfl <| kn) rfl ?_
   refine T_seq (T_reg ?_)
   obtain ⟨x, h_x, h⟩ := bnd h
   refine R_q _ rfl (v_ixSG (ov rfl) (ov rfl) tL52 h_x) ?_
   refine R_q _ rfl (v_loadA_r (ov rfl) tA66 rfl rfl) ?_
   refine R_w _ _ rfl (w_alloc (row := [_, _, _, _]) 0 rfl tZ66 rfl tZ_66) ?_
   refine R_w _ _ rfl (w_store (ov rfl) (ov rfl) (cells_agg tA66 rfl) rfl rfl rfl (Nat.le_of_ble_eq_true rfl) (cell1_all rfl) rfl) ?_
   refine R_nil ?_
   refine T_keep (kc 3 rfl <| kc 5 rfl <| kc 7 rfl <| kc 9 rfl <| kc 10 rfl <| kc 11 rfl <| kn) rfl ?_
   refine T_draw (cw := md0) (by kernel_rfl) ?_
   refine D_q0 0 _ rfl (by kernel_rfl) rfl rfl (v_move (ov rfl)) ?_
   refine D_q0 1 _ rfl (by kernel_rfl) rfl rfl (v_fieldP (ov rfl) rfl rfl tF66_3) ?_
   refine D_q0 2 _ rfl (by kernel_rfl) rfl rfl (v_loadS (ov rfl) rfl rfl rfl tS3 rfl) ?_
   obtain ⟨q, h_q, h⟩ := bnd h
   refine D_q0 3 _ rfl (by kernel_rfl) rfl rfl (v_shlG (ov rfl) (ov rfl) h_q) ?_
   refine D_q0 4 _ rfl (by kernel_rfl) rfl rfl (v_fieldP (ov rfl) rfl rfl tF66_0) ?_
   refine D_q0 5 _ rfl (by kernel_rfl) rfl rfl (v_loadS (ov rfl) rfl rfl rfl tS3 rfl) ?_
   obtain ⟨x2, h_x2, h⟩ := bnd h
   refine D_q0 6 _ rfl (by kernel_rfl) rfl rfl (v_ixRG (ov rfl) (ov rfl) tR26 h_x2) ?_
   refine D_q0 7 _ rfl (by kernel_rfl) rfl rfl (v_loadS_r (ov rfl) tS25 (arG h_x2)) ?_
   refine D_q0 8 _ rfl (by kernel_rfl) rfl rfl (v_fieldP (ov rfl) rfl rfl tF66_1) ?_
   refine D_q0 9 _ rfl (by kernel_rfl) rfl rfl (v_loadS (ov rfl) rfl rfl rfl tS3 rfl) ?_
   refine D_q0 10 _ rfl (by kernel_rfl) rfl rfl (v_sub (ov rfl) (ov rfl) rfl) ?_
   obtain ⟨x3, h_x3, h⟩ := bnd h
   refine D_q0 11 _ rfl (by kernel_rfl) rfl rfl (v_ixSG (ov rfl) (ov rfl) tL25 h_x3) ?_
   refine D_q0 12 _ rfl (by kernel_rfl) rfl rfl (v_loadS_r (ov rfl) tS3 rfl) ?_
   refine D_q0 13 _ rfl (by kernel_rfl) rfl rfl (v_fieldP (ov rfl) rfl rfl tF66_2) ?_
   refine D_q0 14 _ rfl (by kernel_rfl) rfl rfl (v_loadS (ov rfl) rfl rfl rfl tS3 rfl) ?_
   obtain ⟨q2, h_q2, h⟩ := bnd h
   refine D_q0 15 _ rfl (by kernel_rfl) rfl rfl (v_shrG (ov rfl) (ov rfl) h_q2) ?_
   refine D_q0 16 _ rfl (by kernel_rfl) rfl rfl (v_fieldP (ov rfl) rfl rfl tF66_3) ?_
   refine D_q0 17 _ rfl (by kernel_rfl) rfl rfl (v_loadS (ov rfl) rfl rfl rfl tS3 rfl) ?_
   obtain ⟨q3, h_q3, h⟩ := bnd h
   refine D_q0 18 _ rfl (by kernel_rfl) rfl rfl (v_shlG (ov rfl) (ov rfl) h_q3) ?_
   refine D_q0 19 _ rfl (by kernel_rfl) rfl rfl (v_sub (ov rfl) (ov rfl) rfl) ?_
   refine D_q0 20 _ rfl (by kernel_rfl) rfl rfl (v_and_ (ov rfl) (ov rfl)) ?_
   refine D_q0 21 _ rfl (by kernel_rfl) rfl rfl (v_or_ (ov rfl) (ov rfl)) ?_
   refine D_q0 22 _ rfl (by kernel_rfl) rfl rfl (v_assign (ov rfl)) ?_
   refine D_done (by kernel_rfl) ?_
   refine T_keep (kc 3 rfl <| kc 5 rfl <| kc 9 rfl <| kc 10 rfl <| kc 11 rfl <| kn) rfl ?_
   refine T_reg ?_
   refine R_q _ rfl (v_add (ov rfl) (ov rfl) rfl) ?_
   refine R_q _ rfl (v_move (ov rfl)) ?_
   refine R_nil ?_
   exact ⟨((bor .i64 q (band .i64 q2 (i64 (q3 - 1)))), (i64 (i + 1))), h, Ent.sel [] (sd 3 rfl rfl <| sd 5 rfl rfl <| sd 9 rfl rfl <| sd 10 rfl rfl <| sd 11 rfl rfl <| sn) (.nil) rfl rfl⟩
  ·
   refine T_exit ?_
   rw [lx h] at ho1
   replace h := ho1
   exact ⟨raw2, h, Ent.sel [] (sd 5 rfl rfl <| sn) (.nil) rfl rfl⟩
 ·
  obtain ⟨raw, rfl⟩ : ∃ x, x = j := ⟨_, rfl⟩
  replace h := t1i h
  refine t1T ?_
  refine T_seq (T_reg ?_)
  refine R_q _ rfl (v_move (ov rfl)) ?_
  refine R_q _ rfl (v_assign (ov rfl)) ?_
  refine R_nil ?_
  obtain rfl := rt (v := raw) h
  refine T_ret (retq ?_ (.one (.tmp rfl (Dat.view (.b rfl)))))
  rfl

theorem ok_layout_decoded {p : api_Param} {raw : Int} {r : Int × Bool} (h : layout_decoded p raw = some r) :
  CSpec Try.prog gl0 69 [.agg [.str p.Name, .int .i64 p.Kind, .sl 109 (List.map R109 p.Parts), .int .i64 p.First, .int .i64 p.Every, .int .i64 p.Times, .int .i64 p.Step, .sl 9 (List.map R9 p.Names)], .int .i64 raw] (.tuple [.int .i64 r.1, .bool r.2]) := by
 unfold layout_decoded at h
 replace h := bnd0 h
 refine spec_of (by kernel_rfl) Try.func69 rfl rfl ?_
 intro w0 A
 refine T_seq (T_reg ?_)
 refine R_q _ rfl (v_boxD (cva (ov rfl)) rfl tZ_43 rfl) ?_
 refine R_q _ rfl (v_assign (ov rfl)) ?_
 refine R_q _ rfl (v_assign (ov rfl)) ?_
 refine R_nil ?_
 refine T_keep (kc 1 rfl <| kc 2 rfl <| kn) rfl ?_
 refine T_seq (T_reg ?_)
 refine R_q _ rfl (v_loadA_r (ov rfl) tA43 rfl rfl) ?_
 obtain ⟨y, h_y, h⟩ := bnd h
 refine R_q _ rfl (v_call (ok_layout_numberOf h_y) (.cons (ov rfl) (.aggB rfl) <| .nil)) ?_
 refine R_q _ rfl (v_fieldV (ov rfl) tFs102_3 rfl) ?_
 refine R_q _ rfl (v_move (ov rfl)) ?_
 obtain ⟨y2, h_y2, h⟩ := bnd h
 refine R_q _ rfl (v_callC (ov rfl) (((fok_layout_numberOf h_y).2)).1 ((((fok_layout_numberOf h_y).2)).2 _ _ h_y2) (.cons (ov rfl) (.b rfl) <| .nil)) ?_
 refine R_q _ rfl (v_move (ov rfl)) ?_
 refine R_q _ rfl (v_extract (ov rfl) rfl) ?_
 refine R_q _ rfl (v_extract (ov rfl) rfl) ?_
 refine R_q _ rfl (v_assign (ov rfl)) ?_
 refine R_q _ rfl (v_assign (ov rfl)) ?_
 refine R_nil ?_
 refine T_seq ?_
 refine T_keep (kc 6 rfl <| kc 7 rfl <| kn) rfl ?_
 refine T_seq (T_reg ?_)
 refine R_q _ rfl (v_move (ov rfl)) ?_
 refine R_q _ rfl (v_not (ov rfl)) ?_
 refine R_nil ?_
 refine T_keep (kc 6 rfl <| kc 17 rfl <| kn) rfl ?_
 refine T_if h rfl (fun b17 h => ?_) (fun b17 h => ?_)
 ·
  refine T_keep (kn) rfl ?_
  refine T_seq (T_reg ?_)
  refine R_q _ rfl (v_assign (ov rfl)) ?_
  refine R_q _ rfl (v_assign (ov rfl)) ?_
  refine R_nil ?_
  obtain rfl := rt (v := (0, false)) h
  refine T_ret (retq ?_ (.two (.tmp rfl (Dat.view (.b rfl))) (.tmp rfl (Dat.view (.b rfl)))))
  rfl
 ·
  refine T_skip ?_
  refine T_keep (kc 6 rfl <| kn) rfl ?_
  refine T_seq (T_reg ?_)
  refine R_q _ rfl (v_move (ov rfl)) ?_
  refine R_q _ rfl (v_assign (ov rfl)) ?_
  refine R_q _ rfl (v_assign (ov rfl)) ?_
  refine R_nil ?_
  obtain rfl := rt (v := (y2.1, true)) h
  refine T_ret (retq ?_ (.two (.tmp rfl (Dat.view (.b rfl))) (.tmp rfl (Dat.view (.b rfl)))))
  rfl

theorem ok_layout_Unpack {m : api_Map} {l : Vector (List Int) 16} {r : (List api_Reading) × Int} (h : layout_Unpack m l = some r) :
  CSpec Try.prog gl0 18 [.agg [.int .i64 m.Version, .sl 43 (List.map R43 m.Params)], .agg (List.map C25 l.toList)] (.tuple [.sl 36 (List.map R36 r.1), .int .i64 r.2]) := by
 unfold layout_Unpack at h
 replace h := bnd0 h
 refine spec_of (by kernel_rfl) Try.func18 rfl rfl ?_
 intro w0 A
 refine T_seq (T_reg ?_)
 refine R_q _ rfl (v_boxD (cva (ov rfl)) rfl tZ_24 rfl) ?_
 refine R_q _ rfl (v_boxD (cva (ov rfl)) arL tZ_26 (arD fun _ => rfl)) ?_
 refine R_q _ rfl (v_assign (ov rfl)) ?_
 refine R_q _ rfl (v_assign (ov rfl)) ?_
 refine R_nil ?_
 refine T_seq ?_
 refine T_keep (kc 2 rfl <| kc 3 rfl <| kn) rfl ?_
 refine T_seq (T_reg ?_)
 refine R_q _ rfl (v_loadA_r (ov rfl) tA24 rfl rfl) ?_
 obtain ⟨y, h_y, h⟩ := bnd h
 refine R_q _ rfl (v_call (ok_layout_check h_y) (.cons (ov rfl) (.aggB rfl) <| .nil)) ?_
 refine R_q _ rfl (v_move (ov rfl)) ?_
 refine R_q _ rfl (v_extract (ov rfl) rfl) ?_
 refine R_q _ rfl (v_extract (ov rfl) rfl) ?_
 refine R_q _ rfl (v_assign (ov rfl)) ?_
 refine R_q _ rfl (v_assign (ov rfl)) ?_
 refine R_nil ?_
 refine T_keep (kc 2 rfl <| kc 3 rfl <| kc 7 rfl <| kn) rfl ?_
 refine T_seq (T_reg ?_)
 refine R_q _ rfl (v_move (ov rfl)) ?_
 refine R_q _ rfl (v_neq (ov rfl) (ov rfl)) ?_
 refine R_nil ?_
 refine T_keep (kc 2 rfl <| kc 3 rfl <| kc 7 rfl <| kc 23 rfl <| kn) rfl ?_
 refine T_if h rfl (fun b23 h => ?_) (fun b23 h => ?_)
 ·
  refine T_keep (kc 7 rfl <| kn) rfl ?_
  refine T_seq (T_reg ?_)
  refine R_q _ rfl (v_move (ov rfl)) ?_
  refine R_q _ rfl (v_assign (ov rfl)) ?_
  refine R_q _ rfl (v_assign (ov rfl)) ?_
  refine R_nil ?_
  obtain rfl := rt (v := ([], y.2)) h
  refine T_ret (retq ?_ (.two (.tmp rfl (View.nils 36)) (.tmp rfl (Dat.view (.b rfl)))))
  rfl
 ·
  refine T_skip ?_
  refine T_joinG (fun j => (.inr j)) (t0 ⟨[(2, .rp [.int .i64 m.Version, .sl 43 (List.map R43 m.Params)] 0), (3, .rp (List.map C25 l.toList) 0)], []⟩) h (fun h => ?_) (fun j h => ?_)
  ·
   refine T_keep (kc 2 rfl <| kc 3 rfl <| kn) rfl ?_
   refine T_seq (T_reg ?_)
   refine R_q _ rfl (v_loadA_r (ov rfl) tA26 arW arL) ?_
   refine R_q _ rfl (v_move (ov rfl)) ?_
   refine R_nil ?_
   refine T_block ?_
   obtain ⟨r1, hl1, ho1⟩ := bndL h
   refine T_loopG _ (t1 fun i => ⟨[(2, .rp [.int .i64 m.Version, .sl 43 (List.map R43 m.Params)] 0), (3, .rp (List.map C25 l.toList) 0), (25, .agg (List.map C25 l.toList)), (26, .int .i64 i)], []⟩) _ hl1 (Ent.sel [] (sd 2 rfl rfl <| sd 3 rfl rfl <| sr 25 rfl (rAgg (rld (arD fun _ => rfl))) <| sd 26 rfl rfl <| sn) (.nil) rfl rfl) (fun n1 s1 h => ?_)
   obtain ⟨i, rfl⟩ : ∃ x, x = s1 := ⟨_, rfl⟩
   replace h := t1i h
   refine t1T ?_
   unfold layout_Unpack_L1 at h
   refine T_seq (T_reg ?_)
   refine R_q _ rfl (v_lss (ov rfl) (ov rfl)) ?_
   refine R_nil ?_
   refine T_seq ?_
   refine T_if h rfl (fun b27 h => ?_) (fun b27 h => ?_)
   ·
    refine T_skip ?_
    refine T_seq ?_
    refine T_block ?_
    refine T_keep (kc 2 rfl <| kc 3 rfl <| kc 25 rfl <| kc 26 rfl <| kn) rfl ?_
    refine T_seq (T_reg ?_)
    obtain ⟨x, h_x, h⟩ := bnd h
    refine R_q _ rfl (v_indexVG (ov rfl) (ov rfl) tR26 tS25 h_x) ?_
    refine R_q _ rfl (v_assign (ov rfl)) ?_
    refine R_nil ?_
    refine T_seq ?_
    refine T_keep (kc 2 rfl <| kc 3 rfl <| kc 9 rfl <| kc 25 rfl <| kc 26 rfl <| kn) rfl ?_
    refine T_seq (T_reg ?_)
    refine R_q _ rfl (v_move (ov rfl)) ?_
    refine R_q _ rfl (v_len (slv_sl (ov rfl) tZ_3) tL25 (len_map _ _)) ?_
    refine R_q _ rfl (v_neq (ov rfl) (ov rfl)) ?_
    refine R_nil ?_
    refine T_keep (kc 2 rfl <| kc 3 rfl <| kc 9 rfl <| kc 25 rfl <| kc 26 rfl <| kc 31 rfl <| kn) rfl ?_
    refine T_if h rfl (fun b31 h => ?_) (fun b31 h => ?_)
    ·
     refine T_keep (kn) rfl ?_
     refine T_seq (T_reg ?_)
     refine R_q _ rfl (v_assign (ov rfl)) ?_
     refine R_q _ rfl (v_assign (ov rfl)) ?_
     refine R_nil ?_
     rw [lx h] at ho1
     replace h := ho1
     obtain rfl := rt (v := ([], 3)) h
     refine T_ret (retq ?_ (.two (.tmp rfl (View.nils 36)) (.tmp rfl (Dat.view (.b rfl)))))
     rfl
    ·
     refine T_skip ?_
     refine T_keep (kc 2 rfl <| kc 3 rfl <| kc 9 rfl <| kc 25 rfl <| kc 26 rfl <| kn) rfl ?_
     refine T_seq (T_reg ?_)
     refine R_q _ rfl (v_move (ov rfl)) ?_
     obtain ⟨y2, h_y2, h⟩ := bnd h
     refine R_q _ rfl (v_call (ok_slices_ContainsFunc_int_int rfl (fun z0 _ hz => ok_layout_Unpack_1 hz) h_y2) (.cons (ov rfl) (.b rfl) <| .cons (ov rfl) (.fn) <| .nil)) ?_
     refine R_nil ?_
     refine T_keep (kc 2 rfl <| kc 3 rfl <| kc 25 rfl <| kc 26 rfl <| kc 33 rfl <| kn) rfl ?_
     refine T_if h rfl (fun b33 h => ?_) (fun b33 h => ?_)
     ·
      refine T_keep (kn) rfl ?_
      refine T_seq (T_reg ?_)
      refine R_q _ rfl (v_assign (ov rfl)) ?_
      refine R_q _ rfl (v_assign (ov rfl)) ?_
      refine R_nil ?_
      rw [lx h] at ho1
      replace h := ho1
      obtain rfl := rt (v := ([], 9)) h
      refine T_ret (retq ?_ (.two (.tmp rfl (View.nils 36)) (.tmp rfl (Dat.view (.b rfl)))))
      rfl
     ·
      refine T_skip ?_
      refine T_keep (kc 2 rfl <| kc 3 rfl <| kc 25 rfl <| kc 26 rfl <| kn) rfl ?_
      refine T_reg ?_
      refine R_q _ rfl (v_add (ov rfl) (ov rfl) rfl) ?_
      refine R_q _ rfl (v_move (ov rfl)) ?_
      refine R_nil ?_
      exact ⟨(i64 (i + 1)), h, Ent.sel [] (sd 2 rfl rfl <| sd 3 rfl rfl <| sr 25 rfl (rAgg (rld (arD fun _ => rfl))) <| sd 26 rfl rfl <| sn) (.nil) rfl rfl⟩
   ·
    refine T_exit ?_
    rw [lx h] at ho1
    replace h := ho1
    exact ⟨(), h, Ent.sel [] (sd 2 rfl rfl <| sd 3 rfl rfl <| sn) (.nil) rfl rfl⟩
  ·
   replace h := elr h
   cases j
   replace h := t0i h
   refine t0T ?_
   refine T_joinG (fun j => (.inr j)) (t0 ⟨[(2, .rp [.int .i64 m.Version, .sl 43 (List.map R43 m.Params)] 0), (3, .rp (List.map C25 l.toList) 0)], []⟩) h (fun h => ?_) (fun j h => ?_)
   ·
    refine T_seq (T_reg ?_)
    refine R_q _ rfl (v_loadA_r (ov rfl) tA26 arW arL) ?_
    refine R_q _ rfl (v_move (ov rfl)) ?_
    refine R_nil ?_
    refine T_block ?_
    obtain ⟨r2, hl2, ho2⟩ := bndL h
    refine T_loopG _ (t1 fun i2 => ⟨[(2, .rp [.int .i64 m.Version, .sl 43 (List.map R43 m.Params)] 0), (3, .rp (List.map C25 l.toList) 0), (35, .agg (List.map C25 l.toList)), (36, .int .i64 i2)], []⟩) _ hl2 (Ent.sel [] (sd 2 rfl rfl <| sd 3 rfl rfl <| sr 35 rfl (rAgg (rld (arD fun _ => rfl))) <| sd 36 rfl rfl <| sn) (.nil) rfl rfl) (fun n2 s2 h => ?_)
    obtain ⟨i2, rfl⟩ : ∃ x, x = s2 := ⟨_, rfl⟩
    replace h := t1i h
    refine t1T ?_
    unfold layout_Unpack_L2 at h
    refine T_seq (T_reg ?_)
    refine R_q _ rfl (v_lss (ov rfl) (ov rfl)) ?_
    refine R_nil ?_
    refine T_seq ?_
    refine T_if h rfl (fun b37 h => ?_) (fun b37 h => ?_)
    ·
     refine T_skip ?_
     refine T_seq ?_
     refine T_block ?_
     refine T_keep (kc 2 rfl <| kc 3 rfl <| kc 35 rfl <| kc 36 rfl <| kn) rfl ?_
     refine T_seq (T_reg ?_)
     obtain ⟨x2, h_x2, h⟩ := bnd h
     refine R_q _ rfl (v_indexVG (ov rfl) (ov rfl) tR26 tS25 h_x2) ?_
     refine R_q _ rfl (v_assign (ov rfl)) ?_
     refine R_nil ?_
     refine T_keep (kc 2 rfl <| kc 3 rfl <| kc 11 rfl <| kc 35 rfl <| kc 36 rfl <| kn) rfl ?_
     refine T_seq (T_draw (cw := md0) (by kernel_rfl) ?_)
     refine D_q0 0 _ rfl (by kernel_rfl) rfl rfl (v_move (ov rfl)) ?_
     obtain ⟨x3, h_x3, h⟩ := bnd h
     refine D_q0 1 _ rfl (by kernel_rfl) rfl rfl (v_ixSG (ov rfl) (ov rfl) tL25 h_x3) ?_
     refine D_q0 2 _ rfl (by kernel_rfl) rfl rfl (v_loadS_r (ov rfl) tS3 rfl) ?_
     refine D_q0 3 _ rfl (by kernel_rfl) rfl rfl (v_fieldR (ov rfl) tF24_0) ?_
     refine D_q0 4 _ rfl (by kernel_rfl) rfl rfl (v_loadS_r (ov rfl) tS3 rfl) ?_
     refine D_q0 5 _ rfl (by kernel_rfl) rfl rfl (v_neq (ov rfl) (ov rfl)) ?_
     refine D_done (by kernel_rfl) ?_
     refine T_keep (kc 2 rfl <| kc 3 rfl <| kc 35 rfl <| kc 36 rfl <| kc 44 rfl <| kn) rfl ?_
     refine T_if h rfl (fun b44 h => ?_) (fun b44 h => ?_)
     ·
      refine T_keep (kn) rfl ?_
      refine T_seq (T_reg ?_)
      refine R_q _ rfl (v_assign (ov rfl)) ?_
      refine R_q _ rfl (v_assign (ov rfl)) ?_
      refine R_nil ?_
      rw [lx h] at ho2
      replace h := ho2
      obtain rfl := rt (v := ([], 11)) h
      refine T_ret (retq ?_ (.two (.tmp rfl (View.nils 36)) (.tmp rfl (Dat.view (.b rfl)))))
      rfl
     ·
      refine T_skip ?_
      refine T_keep (kc 2 rfl <| kc 3 rfl <| kc 35 rfl <| kc 36 rfl <| kn) rfl ?_
      refine T_reg ?_
      refine R_q _ rfl (v_add (ov rfl) (ov rfl) rfl) ?_
      refine R_q _ rfl (v_move (ov rfl)) ?_
      refine R_nil ?_
      exact ⟨(i64 (i2 + 1)), h, Ent.sel [] (sd 2 rfl rfl <| sd 3 rfl rfl <| sr 35 rfl (rAgg (rld (arD fun _ => rfl))) <| sd 36 rfl rfl <| sn) (.nil) rfl rfl⟩
    ·
     refine T_exit ?_
     rw [lx h] at ho2
     replace h := ho2
     exact ⟨(), h, Ent.sel [] (sd 2 rfl rfl <| sd 3 rfl rfl <| sn) (.nil) rfl rfl⟩
   ·
    replace h := elr h
    cases j
    replace h := t0i h
    refine t0T ?_
    refine T_seq (T_reg ?_)
    refine R_q _ rfl (v_assign (ov rfl)) ?_
    refine R_nil ?_
    refine T_joinG id (t1 fun out => ⟨[(12, .own 0 out.length)], [some ⟨36, List.map R36 out⟩]⟩) h (fun h => ?_) (fun j h => ?_)
    ·
     refine T_seq (T_reg ?_)
     refine R_q _ rfl (v_loadA_r (ov rfl) tA24 rfl rfl) ?_
     obtain ⟨y3, h_y3, h⟩ := bnd h
     refine R_q _ rfl (v_call (ok_layout_cells h_y3) (.cons (ov rfl) (.aggB rfl) <| .nil)) ?_
     refine R_q _ rfl (v_len (slv_sl (ov rfl) tZ_54) tL62 (len_map _ _)) ?_
     refine R_q _ rfl (v_move (ov rfl)) ?_
     refine R_nil ?_
     refine T_block ?_
     obtain ⟨r3, hl3, ho3⟩ := bndL h
     refine T_loopG _ (t2 fun out2 i3 => ⟨[(2, .rp [.int .i64 m.Version, .sl 43 (List.map R43 m.Params)] 0), (3, .rp (List.map C25 l.toList) 0), (12, .own 0 out2.length), (47, .sl 54 (List.map R54 y3)), (48, .int .i64 (y3.length : Int)), (49, .int .i64 i3)], [some ⟨36, List.map R36 out2⟩]⟩) _ hl3 (Ent.sel [none] (sd 2 rfl rfl <| sd 3 rfl rfl <| sr 12 rfl (.row rfl) <| sd 47 rfl rfl <| sd 48 rfl rfl <| sd 49 rfl rfl <| sn) (.row 36 <| .nil) rfl rfl) (fun n3 s3 h => ?_)
     obtain ⟨out2, i3⟩ := s3
     replace h := t2i h
     refine t2T ?_
     unfold layout_Unpack_L3 at h
     refine T_seq (T_reg ?_)
     refine R_q _ rfl (v_lss (ov rfl) (ov rfl)) ?_
     refine R_nil ?_
     refine T_seq ?_
     refine T_if h rfl (fun b50 h => ?_) (fun b50 h => ?_)
     ·
      refine T_skip ?_
      refine T_seq ?_
      refine T_block ?_
      refine T_keep (kc 2 rfl <| kc 3 rfl <| kc 12 rfl <| kc 47 rfl <| kc 48 rfl <| kc 49 rfl <| kn) rfl ?_
      refine T_seq (T_reg ?_)
      obtain ⟨x4, h_x4, h⟩ := bnd h
      refine R_q _ rfl (v_ixSG (ov rfl) (ov rfl) tL62 h_x4) ?_
      refine R_q _ rfl (v_loadA_r (ov rfl) tA54 rfl rfl) ?_
      refine R_w _ _ rfl (w_alloc (row := [_, _, _, _]) 1 rfl tZ54 rfl tZ_54) ?_
      refine R_w _ _ rfl (w_store (ov rfl) (ov rfl) (cells_agg tA54 rfl) rfl rfl rfl (Nat.le_of_ble_eq_true rfl) (cell1_all rfl) rfl) ?_
      refine R_nil ?_
      refine T_keep (kc 2 rfl <| kc 3 rfl <| kc 12 rfl <| kc 14 rfl <| kc 47 rfl <| kc 48 rfl <| kc 49 rfl <| kn) rfl ?_
      refine T_seq (T_draw (cw := md0) (by kernel_rfl) ?_)
      refine D_q0 0 _ rfl (by kernel_rfl) rfl rfl (v_fieldR (ov rfl) tF24_1) ?_
      refine D_q0 1 _ rfl (by kernel_rfl) rfl rfl (v_loadS_r (ov rfl) tS22 rfl) ?_
      refine D_q0 2 _ rfl (by kernel_rfl) rfl rfl (v_fieldP (ov rfl) rfl rfl tF54_0) ?_
      refine D_q0 3 _ rfl (by kernel_rfl) rfl rfl (v_loadS (ov rfl) rfl rfl rfl tS3 rfl) ?_
      obtain ⟨x5, h_x5, h⟩ := bnd h
      refine D_q0 4 _ rfl (by kernel_rfl) rfl rfl (v_ixSG (ov rfl) (ov rfl) tL22 h_x5) ?_
      refine D_q0 5 _ rfl (by kernel_rfl) rfl rfl (v_loadA_r (ov rfl) tA43 rfl rfl) ?_
      refine D_q0 6 _ rfl (by kernel_rfl) rfl rfl (v_loadA (ov rfl) rfl rfl rfl tA54 rfl rfl) ?_
      refine D_q0 7 _ rfl (by kernel_rfl) rfl rfl (v_loadA_r (ov rfl) tA26 arW arL) ?_
      obtain ⟨y4, h_y4, h⟩ := bnd h
      refine D_q0 8 _ rfl (by kernel_rfl) rfl rfl (v_call (ok_layout_rawOf h_y4) (.cons (ov rfl) (.aggB rfl) <| .cons (ov rfl) (.aggB (arD fun _ => rfl)) <| .nil)) ?_
      obtain ⟨y5, h_y5, h⟩ := bnd h
      refine D_q0 9 _ rfl (by kernel_rfl) rfl rfl (v_call (ok_layout_decoded h_y5) (.cons (ov rfl) (.aggB rfl) <| .cons (ov rfl) (.b rfl) <| .nil)) ?_
      refine D_q0 10 _ rfl (by kernel_rfl) rfl rfl (v_move (ov rfl)) ?_
      refine D_q0 11 _ rfl (by kernel_rfl) rfl rfl (v_extract (ov rfl) rfl) ?_
      refine D_q0 12 _ rfl (by kernel_rfl) rfl rfl (v_extract (ov rfl) rfl) ?_
      refine D_q0 13 _ rfl (by kernel_rfl) rfl rfl (v_assign (ov rfl)) ?_
      refine D_q0 14 _ rfl (by kernel_rfl) rfl rfl (v_assign (ov rfl)) ?_
      refine D_done (by kernel_rfl) ?_
      refine T_keep (kc 2 rfl <| kc 3 rfl <| kc 12 rfl <| kc 14 rfl <| kc 15 rfl <| kc 16 rfl <| kc 47 rfl <| kc 48 rfl <| kc 49 rfl <| kn) rfl ?_
      refine T_reg ?_
      refine R_q _ rfl (v_move (ov rfl)) ?_
      refine R_q _ rfl (v_fieldP (ov rfl) rfl rfl tF54_0) ?_
      refine R_q _ rfl (v_loadS (ov rfl) rfl rfl rfl tS3 rfl) ?_
      refine R_q _ rfl (v_fieldP (ov rfl) rfl rfl tF54_1) ?_
      refine R_q _ rfl (v_loadS (ov rfl) rfl rfl rfl tS3 rfl) ?_
      refine R_q _ rfl (v_move (ov rfl)) ?_
      refine R_q _ rfl (v_move (ov rfl)) ?_
      refine R_q _ rfl (v_build (ys := [_, _, _, _]) tPL36 tHA36 tZ36 (.cons (cvs (ov rfl) (cell1_b rfl)) <| .cons (cvs (ov rfl) (cell1_b rfl)) <| .cons (cvs (ov rfl) (cell1_b rfl)) <| .cons (cvs (ov rfl) (cell1_b rfl)) <| .nil) rfl) ?_
      refine R_q (.sl 36 (List.map R36 ([(api_Reading.mk x4.Param x4.Index y5.1 y5.2)] : List api_Reading))) rfl (v_lit tL32 (.cons (cva (ov rfl)) rfl (pwD rfl) <| .nil) rfl rfl) ?_
      obtain ⟨l2, h_l2, h⟩ := bnd h
      refine R_w _ _ rfl (w_appendG (ov rfl) (slv_sl (ov rfl) tZ_36) tL32 rfl rfl rfl (fun _ => cell1_all rfl) rfl h_l2) ?_
      refine R_q _ rfl (v_assign (ov rfl)) ?_
      refine R_nil ?_
      refine T_keep (kc 2 rfl <| kc 3 rfl <| kc 12 rfl <| kc 47 rfl <| kc 48 rfl <| kc 49 rfl <| kn) rfl ?_
      refine T_reg ?_
      refine R_q _ rfl (v_add (ov rfl) (ov rfl) rfl) ?_
      refine R_q _ rfl (v_move (ov rfl)) ?_
      refine R_nil ?_
      exact ⟨(l2, (i64 (i3 + 1))), h, Ent.sel [some 0] (sd 2 rfl rfl <| sd 3 rfl rfl <| sr 12 rfl (.own _ rfl) <| sd 47 rfl rfl <| sd 48 rfl rfl <| sd 49 rfl rfl <| sn) (.cons rfl (roM D36) <| .nil) rfl rfl⟩
     ·
      refine T_exit ?_
      rw [lx h] at ho3
      replace h := ho3
      exact ⟨out2, h, Ent.sel [some 0] (sr 12 rfl (.own _ rfl) <| sn) (.cons rfl (roM D36) <| .nil) rfl rfl⟩
    ·
     obtain ⟨out, rfl⟩ : ∃ x, x = j := ⟨_, rfl⟩
     replace h := t1i h
     refine t1T ?_
     refine T_seq (T_reg ?_)
     refine R_q _ rfl (v_move (ov rfl)) ?_
     refine R_q _ rfl (v_assign (ov rfl)) ?_
     refine R_q _ rfl (v_assign (ov rfl)) ?_
     refine R_nil ?_
     obtain rfl := rt (v := (out, 0)) h
     refine T_ret (retq ?_ (.two (.tmp rfl (View.ownM rfl rfl D36)) (.tmp rfl (Dat.view (.b rfl)))))
     rfl

theorem ok_law2_mapped  {r : Bool} (h : law2_mapped  = some r) :
  CSpec Try.prog gl0 17 [] (.bool r) := by
 unfold law2_mapped at h
 replace h := bnd0 h
 refine spec_of (by kernel_rfl) Try.func17 rfl rfl ?_
 intro w0 A
 refine T_seq (T_reg ?_)
 refine R_q _ rfl (v_assign (ov rfl)) ?_
 refine R_nil ?_
 refine T_keep (kn) rfl ?_
 refine T_seq (T_reg ?_)
 refine R_q _ rfl (v_build (ys := [_, _, _, _]) tPL109 tHA109 tZ109 (.cons (cvs (ov rfl) (cell1_b rfl)) <| .cons (cvs (ov rfl) (cell1_b rfl)) <| .cons (cvs (ov rfl) (cell1_b rfl)) <| .nil) rfl) ?_
 refine R_q (.sl 109 (List.map R109 ([(api_Part.mk 0 9 2 3)] : List api_Part))) rfl (v_lit tL40 (.cons (cva (ov rfl)) rfl (pwD rfl) <| .nil) rfl rfl) ?_
 refine R_q _ rfl (v_build (ys := [_, _, _, _, _, _, _, _]) tPL43 tHA43 tZ43 (.cons (cvs (ov rfl) (cell1_b rfl)) <| .cons (cvs (ov rfl) (cell1_b rfl)) <| .cons (cvs (ov rfl) (cell1_b rfl)) <| .cons (cvs (ov rfl) (cell1_b rfl)) <| .cons (cvs (ov rfl) (cell1_b rfl)) <| .cons (cvs (ov rfl) (cell1_b rfl)) <| .cons (cvs (ov rfl) (cell1_b rfl)) <| .nil) rfl) ?_
 refine R_q (.sl 43 (List.map R43 ([(api_Param.mk [97] 2 ([(api_Part.mk 0 9 2 3)] : List api_Part) 2 8 2 1 [])] : List api_Param))) rfl (v_lit tL22 (.cons (cva (ov rfl)) rfl (.cons (.b rfl) <| .cons (.b rfl) <| .cons (.b rfl) <| .cons (.b rfl) <| .cons (.b rfl) <| .cons (.b rfl) <| .cons (.b rfl) <| .cons (Dat.nils _) <| .nil) <| .nil) rfl rfl) ?_
 refine R_q _ rfl (v_build (ys := [_, _]) tPL24 tHA24 tZ24 (.cons (cvs (ov rfl) (cell1_b rfl)) <| .cons (cvs (ov rfl) (cell1_b rfl)) <| .nil) rfl) ?_
 refine R_w _ _ rfl (w_alloc (row := [_, _]) 0 rfl tZ24 rfl tZ_24) ?_
 refine R_w _ _ rfl (w_store (ov rfl) (ov rfl) (cells_agg tA24 rfl) rfl rfl rfl (Nat.le_of_ble_eq_true rfl) (cell1_all rfl) rfl) ?_
 refine R_nil ?_
 refine T_keep (kc 1 rfl <| kn) rfl ?_
 refine T_seq (T_reg ?_)
 refine R_q _ rfl (v_loadA (ov rfl) rfl rfl rfl tA24 rfl rfl) ?_
 refine R_q (.sl 3 (List.map R3 ([(-1), 3, 0, (-4)] : List Int))) rfl (v_lit tL25 (.cons (cvs (ov rfl) (cell1_b rfl)) rfl (.cons (.b rfl) .nil) <| .cons (cvs (ov rfl) (cell1_b rfl)) rfl (.cons (.b rfl) .nil) <| .cons (cvs (ov rfl) (cell1_b rfl)) rfl (.cons (.b rfl) .nil) <| .cons (cvs (ov rfl) (cell1_b rfl)) rfl (.cons (.b rfl) .nil) <| .nil) rfl rfl) ?_
 obtain ⟨y, h_y, h⟩ := bnd h
 refine R_q _ rfl (v_call (ok_layout_Pack h_y) (.cons (ov rfl) (.aggB rfl) <| .cons (ov rfl) (.b rfl) <| .nil)) ?_
 refine R_q _ rfl (v_move (ov rfl)) ?_
 refine R_q _ rfl (v_extract (ov rfl) rfl) ?_
 refine R_q _ rfl (v_extract (ov rfl) rfl) ?_
 refine R_w _ _ rfl (w_alloc (row := [_, _, _, _, _, _, _, _, _, _, _, _, _, _, _, _]) 1 rfl tZ26 rfl tZ_26) ?_
 refine R_w _ _ rfl (w_store (ov rfl) (ov rfl) (cells_agg tA26 arL) rfl rfl rfl (Nat.le_of_eq (by simp)) (cell1_all (arC fun _ => rfl)) (arWhole (by simp))) ?_
 refine R_q _ rfl (v_assign (ov rfl)) ?_
 refine R_nil ?_
 refine T_seq ?_
 refine T_keep (kc 1 rfl <| kc 2 rfl <| kc 3 rfl <| kn) rfl ?_
 refine T_seq (T_reg ?_)
 refine R_q _ rfl (v_move (ov rfl)) ?_
 refine R_q _ rfl (v_neq (ov rfl) (ov rfl)) ?_
 refine R_q _ rfl (v_move (ov rfl)) ?_
 obtain ⟨x, h_x, h⟩ := bnd h
 refine R_q _ rfl (.guarded ((!decide (y.2 = 0)) == false) rfl rfl rfl rfl fun h => v_ixAG (ov rfl) (ov rfl) tR26 rfl rfl (gdT h_x h)) ?_
 refine R_q _ rfl (.guarded ((!decide (y.2 = 0)) == false) rfl rfl rfl rfl fun h => v_loadS (ow rfl h) rfl rfl rfl tS25 (arG (gdT h_x h))) ?_
 refine R_q _ rfl (.guarded ((!decide (y.2 = 0)) == false) rfl rfl rfl rfl fun h => v_len (slv_sl (ow rfl h) tZ_3) tL25 (len_map _ _)) ?_
 refine R_q _ rfl (.guarded ((!decide (y.2 = 0)) == false) rfl rfl rfl rfl fun h => v_neq (ow rfl h) (ov rfl)) ?_
 refine R_q _ rfl (v_or (ov rfl) (fun hp => ow rfl (gF hp))) ?_
 refine R_q _ rfl (v_move (ov rfl)) ?_
 obtain ⟨x2, h_x2, h⟩ := bnd h
 refine R_q _ rfl (.guarded (((!decide (y.2 = 0)) || (!decide ((x.length : Int) = 58))) == false) rfl rfl rfl rfl fun h => v_ixAG (ov rfl) (ov rfl) tR26 rfl rfl (gdT h_x2 h)) ?_
 refine R_q _ rfl (.guarded (((!decide (y.2 = 0)) || (!decide ((x.length : Int) = 58))) == false) rfl rfl rfl rfl fun h => v_loadS (ow rfl h) rfl rfl rfl tS25 (arG (gdT h_x2 h))) ?_
 refine R_q _ rfl (.guarded (((!decide (y.2 = 0)) || (!decide ((x.length : Int) = 58))) == false) rfl rfl rfl rfl fun h => v_len (slv_sl (ow rfl h) tZ_3) tL25 (len_map _ _)) ?_
 refine R_q _ rfl (.guarded (((!decide (y.2 = 0)) || (!decide ((x.length : Int) = 58))) == false) rfl rfl rfl rfl fun h => v_neq (ow rfl h) (ov rfl)) ?_
 refine R_q _ rfl (v_or (ov rfl) (fun hp => ow rfl (gF hp))) ?_
 refine R_q _ rfl (v_move (ov rfl)) ?_
 obtain ⟨x3, h_x3, h⟩ := bnd h
 refine R_q _ rfl (.guarded ((((!decide (y.2 = 0)) || (!decide ((x.length : Int) = 58))) || (!decide ((x2.length : Int) = 58))) == false) rfl rfl rfl rfl fun h => v_ixAG (ov rfl) (ov rfl) tR26 rfl rfl (gdT h_x3 h)) ?_
 refine R_q _ rfl (.guarded ((((!decide (y.2 = 0)) || (!decide ((x.length : Int) = 58))) || (!decide ((x2.length : Int) = 58))) == false) rfl rfl rfl rfl fun h => v_loadS (ow rfl h) rfl rfl rfl tS25 (arG (gdT h_x3 h))) ?_
 refine R_q _ rfl (.guarded ((((!decide (y.2 = 0)) || (!decide ((x.length : Int) = 58))) || (!decide ((x2.length : Int) = 58))) == false) rfl rfl rfl rfl fun h => v_len (slv_sl (ow rfl h) tZ_3) tL25 (len_map _ _)) ?_
 refine R_q _ rfl (.guarded ((((!decide (y.2 = 0)) || (!decide ((x.length : Int) = 58))) || (!decide ((x2.length : Int) = 58))) == false) rfl rfl rfl rfl fun h => v_neq (ow rfl h) (ov rfl)) ?_
 refine R_q _ rfl (v_or (ov rfl) (fun hp => ow rfl (gF hp))) ?_
 refine R_q _ rfl (v_move (ov rfl)) ?_
 obtain ⟨x4, h_x4, h⟩ := bnd h
 refine R_q _ rfl (.guarded (((((!decide (y.2 = 0)) || (!decide ((x.length : Int) = 58))) || (!decide ((x2.length : Int) = 58))) || (!decide ((x3.length : Int) = 58))) == false) rfl rfl rfl rfl fun h => v_ixAG (ov rfl) (ov rfl) tR26 rfl rfl (gdT h_x4 h)) ?_
 refine R_q _ rfl (.guarded (((((!decide (y.2 = 0)) || (!decide ((x.length : Int) = 58))) || (!decide ((x2.length : Int) = 58))) || (!decide ((x3.length : Int) = 58))) == false) rfl rfl rfl rfl fun h => v_loadS (ow rfl h) rfl rfl rfl tS25 (arG (gdT h_x4 h))) ?_
 obtain ⟨x5, h_x5, h⟩ := bnd h
 refine R_q _ rfl (.guarded (((((!decide (y.2 = 0)) || (!decide ((x.length : Int) = 58))) || (!decide ((x2.length : Int) = 58))) || (!decide ((x3.length : Int) = 58))) == false) rfl rfl rfl rfl fun h => v_ixSG (ow rfl h) (ov rfl) tL25 (gdT h_x5 h)) ?_
 refine R_q _ rfl (.guarded (((((!decide (y.2 = 0)) || (!decide ((x.length : Int) = 58))) || (!decide ((x2.length : Int) = 58))) || (!decide ((x3.length : Int) = 58))) == false) rfl rfl rfl rfl fun h => v_loadS_r (ow rfl h) tS3 rfl) ?_
 refine R_q _ rfl (.guarded (((((!decide (y.2 = 0)) || (!decide ((x.length : Int) = 58))) || (!decide ((x2.length : Int) = 58))) || (!decide ((x3.length : Int) = 58))) == false) rfl rfl rfl rfl fun h => v_neq (ow rfl h) (ov rfl)) ?_
 refine R_q _ rfl (v_or (ov rfl) (fun hp => ow rfl (gF hp))) ?_
 refine R_q _ rfl (v_move (ov rfl)) ?_
 obtain ⟨x6, h_x6, h⟩ := bnd h
 refine R_q _ rfl (.guarded ((((((!decide (y.2 = 0)) || (!decide ((x.length : Int) = 58))) || (!decide ((x2.length : Int) = 58))) || (!decide ((x3.length : Int) = 58))) || (!decide (x5 = 28))) == false) rfl rfl rfl rfl fun h => v_ixAG (ov rfl) (ov rfl) tR26 rfl rfl (gdT h_x6 h)) ?_
 refine R_q _ rfl (.guarded ((((((!decide (y.2 = 0)) || (!decide ((x.length : Int) = 58))) || (!decide ((x2.length : Int) = 58))) || (!decide ((x3.length : Int) = 58))) || (!decide (x5 = 28))) == false) rfl rfl rfl rfl fun h => v_loadS (ow rfl h) rfl rfl rfl tS25 (arG (gdT h_x6 h))) ?_
 obtain ⟨x7, h_x7, h⟩ := bnd h
 refine R_q _ rfl (.guarded ((((((!decide (y.2 = 0)) || (!decide ((x.length : Int) = 58))) || (!decide ((x2.length : Int) = 58))) || (!decide ((x3.length : Int) = 58))) || (!decide (x5 = 28))) == false) rfl rfl rfl rfl fun h => v_ixSG (ow rfl h) (ov rfl) tL25 (gdT h_x7 h)) ?_
 refine R_q _ rfl (.guarded ((((((!decide (y.2 = 0)) || (!decide ((x.length : Int) = 58))) || (!decide ((x2.length : Int) = 58))) || (!decide ((x3.length : Int) = 58))) || (!decide (x5 = 28))) == false) rfl rfl rfl rfl fun h => v_loadS_r (ow rfl h) tS3 rfl) ?_
 refine R_q _ rfl (.guarded ((((((!decide (y.2 = 0)) || (!decide ((x.length : Int) = 58))) || (!decide ((x2.length : Int) = 58))) || (!decide ((x3.length : Int) = 58))) || (!decide (x5 = 28))) == false) rfl rfl rfl rfl fun h => v_neq (ow rfl h) (ov rfl)) ?_
 refine R_q _ rfl (v_or (ov rfl) (fun hp => ow rfl (gF hp))) ?_
 refine R_q _ rfl (v_move (ov rfl)) ?_
 obtain ⟨x8, h_x8, h⟩ := bnd h
 refine R_q _ rfl (.guarded (((((((!decide (y.2 = 0)) || (!decide ((x.length : Int) = 58))) || (!decide ((x2.length : Int) = 58))) || (!decide ((x3.length : Int) = 58))) || (!decide (x5 = 28))) || (!decide (x7 = 12))) == false) rfl rfl rfl rfl fun h => v_ixAG (ov rfl) (ov rfl) tR26 rfl rfl (gdT h_x8 h)) ?_
 refine R_q _ rfl (.guarded (((((((!decide (y.2 = 0)) || (!decide ((x.length : Int) = 58))) || (!decide ((x2.length : Int) = 58))) || (!decide ((x3.length : Int) = 58))) || (!decide (x5 = 28))) || (!decide (x7 = 12))) == false) rfl rfl rfl rfl fun h => v_loadS (ow rfl h) rfl rfl rfl tS25 (arG (gdT h_x8 h))) ?_
 obtain ⟨x9, h_x9, h⟩ := bnd h
 refine R_q _ rfl (.guarded (((((((!decide (y.2 = 0)) || (!decide ((x.length : Int) = 58))) || (!decide ((x2.length : Int) = 58))) || (!decide ((x3.length : Int) = 58))) || (!decide (x5 = 28))) || (!decide (x7 = 12))) == false) rfl rfl rfl rfl fun h => v_ixSG (ow rfl h) (ov rfl) tL25 (gdT h_x9 h)) ?_
 refine R_q _ rfl (.guarded (((((((!decide (y.2 = 0)) || (!decide ((x.length : Int) = 58))) || (!decide ((x2.length : Int) = 58))) || (!decide ((x3.length : Int) = 58))) || (!decide (x5 = 28))) || (!decide (x7 = 12))) == false) rfl rfl rfl rfl fun h => v_loadS_r (ow rfl h) tS3 rfl) ?_
 refine R_q _ rfl (.guarded (((((((!decide (y.2 = 0)) || (!decide ((x.length : Int) = 58))) || (!decide ((x2.length : Int) = 58))) || (!decide ((x3.length : Int) = 58))) || (!decide (x5 = 28))) || (!decide (x7 = 12))) == false) rfl rfl rfl rfl fun h => v_neq (ow rfl h) (ov rfl)) ?_
 refine R_q _ rfl (v_or (ov rfl) (fun hp => ow rfl (gF hp))) ?_
 refine R_q _ rfl (v_move (ov rfl)) ?_
 obtain ⟨x10, h_x10, h⟩ := bnd h
 refine R_q _ rfl (.guarded ((((((((!decide (y.2 = 0)) || (!decide ((x.length : Int) = 58))) || (!decide ((x2.length : Int) = 58))) || (!decide ((x3.length : Int) = 58))) || (!decide (x5 = 28))) || (!decide (x7 = 12))) || (!decide (x9 = 0))) == false) rfl rfl rfl rfl fun h => v_ixAG (ov rfl) (ov rfl) tR26 rfl rfl (gdT h_x10 h)) ?_
 refine R_q _ rfl (.guarded ((((((((!decide (y.2 = 0)) || (!decide ((x.length : Int) = 58))) || (!decide ((x2.length : Int) = 58))) || (!decide ((x3.length : Int) = 58))) || (!decide (x5 = 28))) || (!decide (x7 = 12))) || (!decide (x9 = 0))) == false) rfl rfl rfl rfl fun h => v_loadS (ow rfl h) rfl rfl rfl tS25 (arG (gdT h_x10 h))) ?_
 obtain ⟨x11, h_x11, h⟩ := bnd h
 refine R_q _ rfl (.guarded ((((((((!decide (y.2 = 0)) || (!decide ((x.length : Int) = 58))) || (!decide ((x2.length : Int) = 58))) || (!decide ((x3.length : Int) = 58))) || (!decide (x5 = 28))) || (!decide (x7 = 12))) || (!decide (x9 = 0))) == false) rfl rfl rfl rfl fun h => v_ixSG (ow rfl h) (ov rfl) tL25 (gdT h_x11 h)) ?_
 refine R_q _ rfl (.guarded ((((((((!decide (y.2 = 0)) || (!decide ((x.length : Int) = 58))) || (!decide ((x2.length : Int) = 58))) || (!decide ((x3.length : Int) = 58))) || (!decide (x5 = 28))) || (!decide (x7 = 12))) || (!decide (x9 = 0))) == false) rfl rfl rfl rfl fun h => v_loadS_r (ow rfl h) tS3 rfl) ?_
 refine R_q _ rfl (.guarded ((((((((!decide (y.2 = 0)) || (!decide ((x.length : Int) = 58))) || (!decide ((x2.length : Int) = 58))) || (!decide ((x3.length : Int) = 58))) || (!decide (x5 = 28))) || (!decide (x7 = 12))) || (!decide (x9 = 0))) == false) rfl rfl rfl rfl fun h => v_neq (ow rfl h) (ov rfl)) ?_
 refine R_q _ rfl (v_or (ov rfl) (fun hp => ow rfl (gF hp))) ?_
 refine R_q _ rfl (v_move (ov rfl)) ?_
 obtain ⟨x12, h_x12, h⟩ := bnd h
 refine R_q _ rfl (.guarded (((((((((!decide (y.2 = 0)) || (!decide ((x.length : Int) = 58))) || (!decide ((x2.length : Int) = 58))) || (!decide ((x3.length : Int) = 58))) || (!decide (x5 = 28))) || (!decide (x7 = 12))) || (!decide (x9 = 0))) || (!decide (x11 = 16))) == false) rfl rfl rfl rfl fun h => v_ixAG (ov rfl) (ov rfl) tR26 rfl rfl (gdT h_x12 h)) ?_
 refine R_q _ rfl (.guarded (((((((((!decide (y.2 = 0)) || (!decide ((x.length : Int) = 58))) || (!decide ((x2.length : Int) = 58))) || (!decide ((x3.length : Int) = 58))) || (!decide (x5 = 28))) || (!decide (x7 = 12))) || (!decide (x9 = 0))) || (!decide (x11 = 16))) == false) rfl rfl rfl rfl fun h => v_loadS (ow rfl h) rfl rfl rfl tS25 (arG (gdT h_x12 h))) ?_
 obtain ⟨x13, h_x13, h⟩ := bnd h
 refine R_q _ rfl (.guarded (((((((((!decide (y.2 = 0)) || (!decide ((x.length : Int) = 58))) || (!decide ((x2.length : Int) = 58))) || (!decide ((x3.length : Int) = 58))) || (!decide (x5 = 28))) || (!decide (x7 = 12))) || (!decide (x9 = 0))) || (!decide (x11 = 16))) == false) rfl rfl rfl rfl fun h => v_ixSG (ow rfl h) (ov rfl) tL25 (gdT h_x13 h)) ?_
 refine R_q _ rfl (.guarded (((((((((!decide (y.2 = 0)) || (!decide ((x.length : Int) = 58))) || (!decide ((x2.length : Int) = 58))) || (!decide ((x3.length : Int) = 58))) || (!decide (x5 = 28))) || (!decide (x7 = 12))) || (!decide (x9 = 0))) || (!decide (x11 = 16))) == false) rfl rfl rfl rfl fun h => v_loadS_r (ow rfl h) tS3 rfl) ?_
 refine R_q _ rfl (.guarded (((((((((!decide (y.2 = 0)) || (!decide ((x.length : Int) = 58))) || (!decide ((x2.length : Int) = 58))) || (!decide ((x3.length : Int) = 58))) || (!decide (x5 = 28))) || (!decide (x7 = 12))) || (!decide (x9 = 0))) || (!decide (x11 = 16))) == false) rfl rfl rfl rfl fun h => v_neq (ow rfl h) (ov rfl)) ?_
 refine R_q _ rfl (v_or (ov rfl) (fun hp => ow rfl (gF hp))) ?_
 refine R_nil ?_
 refine T_keep (kc 1 rfl <| kc 2 rfl <| kc 70 rfl <| kn) rfl ?_
 refine T_if h rfl (fun b70 h => ?_) (fun b70 h => ?_)
 ·
  refine T_keep (kn) rfl ?_
  refine T_seq (T_reg ?_)
  refine R_q _ rfl (v_assign (ov rfl)) ?_
  refine R_nil ?_
  obtain rfl := rt (v := false) h
  refine T_ret (retq ?_ (.one (.tmp rfl (Dat.view (.b rfl)))))
  rfl
 ·
  refine T_skip ?_
  refine T_keep (kc 1 rfl <| kc 2 rfl <| kn) rfl ?_
  refine T_seq (T_reg ?_)
  refine R_q _ rfl (v_loadA (ov rfl) rfl rfl rfl tA24 rfl rfl) ?_
  refine R_q _ rfl (v_loadA (ov rfl) rfl rfl rfl tA26 arW arL) ?_
  obtain ⟨y2, h_y2, h⟩ := bnd h
  refine R_q _ rfl (v_call (ok_layout_Unpack h_y2) (.cons (ov rfl) (.aggB rfl) <| .cons (ov rfl) (.aggB (arD fun _ => rfl)) <| .nil)) ?_
  refine R_q _ rfl (v_move (ov rfl)) ?_
  refine R_q _ rfl (v_extract (ov rfl) rfl) ?_
  refine R_q _ rfl (v_extract (ov rfl) rfl) ?_
  refine R_q _ rfl (v_assign (ov rfl)) ?_
  refine R_q _ rfl (v_assign (ov rfl)) ?_
  refine R_nil ?_
  refine T_keep (kc 3 rfl <| kc 4 rfl <| kn) rfl ?_
  refine T_seq (T_reg ?_)
  refine R_q _ rfl (v_move (ov rfl)) ?_
  refine R_q _ rfl (v_eql (ov rfl) (ov rfl)) ?_
  refine R_q _ rfl (v_move (ov rfl)) ?_
  refine R_q _ rfl (.guarded ((decide (y2.2 = 0)) == true) rfl rfl rfl rfl fun h => v_move (ov rfl)) ?_
  refine R_q _ rfl (.guarded ((decide (y2.2 = 0)) == true) rfl rfl rfl rfl fun h => v_len (slv_sl (ow rfl h) tZ_36) tL32 (len_map _ _)) ?_
  refine R_q _ rfl (.guarded ((decide (y2.2 = 0)) == true) rfl rfl rfl rfl fun h => v_eql (ow rfl h) (ov rfl)) ?_
  refine R_q _ rfl (v_and (ov rfl) (fun hp => ow rfl (gT hp))) ?_
  refine R_q _ rfl (v_move (ov rfl)) ?_
  refine R_q _ rfl (.guarded (((decide (y2.2 = 0)) && (decide ((y2.1.length : Int) = 4))) == true) rfl rfl rfl rfl fun h => v_move (ov rfl)) ?_
  obtain ⟨x14, h_x14, h⟩ := bnd h
  refine R_q _ rfl (.guarded (((decide (y2.2 = 0)) && (decide ((y2.1.length : Int) = 4))) == true) rfl rfl rfl rfl fun h => v_ixSG (ow rfl h) (ov rfl) tL32 (gdT h_x14 h)) ?_
  refine R_q _ rfl (.guarded (((decide (y2.2 = 0)) && (decide ((y2.1.length : Int) = 4))) == true) rfl rfl rfl rfl fun h => v_loadA_r (ow rfl h) tA36 rfl rfl) ?_
  refine R_q _ rfl (.guarded (((decide (y2.2 = 0)) && (decide ((y2.1.length : Int) = 4))) == true) rfl rfl rfl rfl fun h => v_build (ys := [_, _, _, _]) tPL36 tHA36 tZ36 (.cons (cvs (ov rfl) (cell1_b rfl)) <| .cons (cvs (ov rfl) (cell1_b rfl)) <| .cons (cvs (ov rfl) (cell1_b rfl)) <| .nil) rfl) ?_
  refine R_q _ rfl (.guarded (((decide (y2.2 = 0)) && (decide ((y2.1.length : Int) = 4))) == true) rfl rfl rfl rfl fun h => v_eqlS tFS36 (ow rfl h) (ow rfl h) (.aggB rfl) (.aggB rfl) rfl rfl) ?_
  refine R_q _ rfl (v_and (ov rfl) (fun hp => ow rfl (gT hp))) ?_
  refine R_q _ rfl (v_assign (ov rfl)) ?_
  refine R_nil ?_
  obtain rfl := rt (v := (((decide (y2.2 = 0)) && (decide ((y2.1.length : Int) = 4))) && (decide (x14.Param = 0) && (decide (x14.Index = 3) && (decide (x14.Value = (-4)) && ((x14.Good == true) && true)))))) h
  refine T_ret (retq ?_ (.one (.tmp rfl (Dat.view (.b rfl)))))
  rfl

theorem ok_law2_LayoutWithoutMatchesSpec {m : api_Map} {names : List Str} {r : Bool} (h : law2_LayoutWithoutMatchesSpec m names = some r) :
  CSpec Try.prog gl0 12 [.agg [.int .i64 m.Version, .sl 43 (List.map R43 m.Params)], .sl 9 (List.map R9 names)] (.bool r) := by
 unfold law2_LayoutWithoutMatchesSpec at h
 replace h := bnd0 h
 refine spec_of (by kernel_rfl) Try.func12 rfl rfl ?_
 intro w0 A
 refine T_seq (T_reg ?_)
 refine R_q _ rfl (v_boxD (cva (ov rfl)) rfl tZ_24 rfl) ?_
 refine R_q _ rfl (v_assign (ov rfl)) ?_
 refine R_nil ?_
 refine T_keep (kc 1 rfl <| kc 2 rfl <| kn) rfl ?_
 refine T_seq (T_reg ?_)
 refine R_q _ rfl (v_loadA_r (ov rfl) tA24 rfl rfl) ?_
 refine R_q _ rfl (v_move (ov rfl)) ?_
 obtain ⟨y, h_y, h⟩ := bnd h
 refine R_q _ rfl (v_call (ok_layout_Without h_y) (.cons (ov rfl) (.aggB rfl) <| .cons (ov rfl) (.b rfl) <| .nil)) ?_
 refine R_q _ rfl (v_move (ov rfl)) ?_
 refine R_q _ rfl (v_extract (ov rfl) rfl) ?_
 refine R_q _ rfl (v_extract (ov rfl) rfl) ?_
 refine R_w _ _ rfl (w_alloc (row := [_, _]) 0 rfl tZ24 rfl tZ_24) ?_
 refine R_w _ _ rfl (w_store (ov rfl) (ov rfl) (cells_agg tA24 rfl) rfl rfl rfl (Nat.le_of_ble_eq_true rfl) (cell1_all rfl) rfl) ?_
 refine R_q _ rfl (v_assign (ov rfl)) ?_
 refine R_nil ?_
 refine T_keep (kc 1 rfl <| kc 2 rfl <| kc 5 rfl <| kc 6 rfl <| kn) rfl ?_
 refine T_seq (T_reg ?_)
 refine R_q _ rfl (v_loadA_r (ov rfl) tA24 rfl rfl) ?_
 refine R_q _ rfl (v_move (ov rfl)) ?_
 obtain ⟨y2, h_y2, h⟩ := bnd h
 refine R_q _ rfl (v_call (ok_ref2_Without h_y2) (.cons (ov rfl) (.aggB rfl) <| .cons (ov rfl) (.b rfl) <| .nil)) ?_
 refine R_q _ rfl (v_move (ov rfl)) ?_
 refine R_q _ rfl (v_extract (ov rfl) rfl) ?_
 refine R_q _ rfl (v_extract (ov rfl) rfl) ?_
 refine R_w _ _ rfl (w_alloc (row := [_, _]) 1 rfl tZ24 rfl tZ_24) ?_
 refine R_w _ _ rfl (w_store (ov rfl) (ov rfl) (cells_agg tA24 rfl) rfl rfl rfl (Nat.le_of_ble_eq_true rfl) (cell1_all rfl) rfl) ?_
 refine R_q _ rfl (v_assign (ov rfl)) ?_
 refine R_nil ?_
 refine T_keep (kc 5 rfl <| kc 6 rfl <| kc 7 rfl <| kc 8 rfl <| kn) rfl ?_
 refine T_seq (T_reg ?_)
 refine R_q _ rfl (v_move (ov rfl)) ?_
 refine R_q _ rfl (v_move (ov rfl)) ?_
 refine R_q _ rfl (v_eql (ov rfl) (ov rfl)) ?_
 refine R_q _ rfl (v_move (ov rfl)) ?_
 refine R_q _ rfl (.guarded ((decide (y.2 = y2.2)) == true) rfl rfl rfl rfl fun h => v_loadA (ov rfl) rfl rfl rfl tA24 rfl rfl) ?_
 refine R_q _ rfl (.guarded ((decide (y.2 = y2.2)) == true) rfl rfl rfl rfl fun h => v_loadA (ov rfl) rfl rfl rfl tA24 rfl rfl) ?_
 obtain ⟨y3, h_y3, h⟩ := bnd h
 refine R_q _ rfl (.guarded ((decide (y.2 = y2.2)) == true) rfl rfl rfl rfl fun h => v_call (ok_law2_sameMap (gdT h_y3 h)) (.cons (ow rfl h) (.aggB rfl) <| .cons (ow rfl h) (.aggB rfl) <| .nil)) ?_
 refine R_q _ rfl (v_and (ov rfl) (fun hp => ow rfl (gT hp))) ?_
 refine R_q _ rfl (v_move (ov rfl)) ?_
 obtain ⟨y4, h_y4, h⟩ := bnd h
 refine R_q _ rfl (.guarded (((decide (y.2 = y2.2)) && y3) == true) rfl rfl rfl rfl fun h => v_call (ok_law2_mapped (gdT h_y4 h)) (.nil)) ?_
 refine R_q _ rfl (v_and (ov rfl) (fun hp => ow rfl (gT hp))) ?_
 refine R_q _ rfl (v_assign (ov rfl)) ?_
 refine R_nil ?_
 obtain rfl := rt (v := (((decide (y.2 = y2.2)) && y3) && y4)) h
 refine T_ret (retq ?_ (.one (.tmp rfl (Dat.view (.b rfl)))))
 rfl
end Go.Proofs.Ytncoekfjpkfcdaa
