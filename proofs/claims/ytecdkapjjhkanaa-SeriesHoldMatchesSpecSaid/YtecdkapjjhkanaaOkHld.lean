/- A text of the proof: a verified executor of the program form, or the contracts of the functions that the law reaches. -/
import Derived.Test.YtecdkapjjhkanaaShT
import Derived.Test.YtecdkapjjhkanaaProg
set_option linter.all false
namespace Go.Proofs.Ytecdkapjjhkanaa
open Go Go.Vx
set_option maxRecDepth 10000
set_option maxHeartbeats 1000000
set_option linter.unusedVariables false
theorem tZ_27 : Try.prog.cellsOf 27 = 3 := by kernel_rfl
theorem tZ_24 : Try.prog.cellsOf 24 = 2 := by kernel_rfl
theorem tA24 : tAgg Try.prog 24 2 = true := by kernel_rfl
theorem tZ27 : zeroOf Try.prog 27 = some [.int .i64 0, .int .i64 0, .int .i64 0] := by kernel_rfl
theorem tF24_0 : tFld Try.prog 24 0 0 = true := by kernel_rfl
theorem tS3 : tScal Try.prog 3 = true := by kernel_rfl
theorem tF24_1 : tFld Try.prog 24 1 1 = true := by kernel_rfl
theorem tS22 : tScal Try.prog 22 = true := by kernel_rfl
theorem tL22 : tSl Try.prog 22 27 3 24 = true := by kernel_rfl
theorem tA27 : tAgg Try.prog 27 3 = true := by kernel_rfl
theorem tF27_0 : tFld Try.prog 27 0 0 = true := by kernel_rfl
theorem tF27_1 : tFld Try.prog 27 1 1 = true := by kernel_rfl
theorem tF27_2 : tFld Try.prog 27 2 2 = true := by kernel_rfl
theorem tPL27 : structPl Try.prog 27 = some [(0, 1), (1, 1), (2, 1)] := by kernel_rfl
theorem tHA27 : hasAll Try.prog 27 = true := by kernel_rfl
theorem tI3 : tInt Try.prog 3 .i64 = true := by kernel_rfl
theorem tI89 : tInt Try.prog 89 .u64 = true := by kernel_rfl
theorem tFS27 : flatSt Try.prog 27 [.i .i64, .i .i64, .i .i64] = true := by kernel_rfl
theorem tB4 : (match Try.prog.underlying 4 with | some .bool => true | _ => false) = true := by kernel_rfl
theorem tZ44 : zeroOf Try.prog 44 = some [.int .i64 0, .int .i64 0] := by kernel_rfl
theorem tZ_44 : Try.prog.cellsOf 44 = 2 := by kernel_rfl
theorem tPL44 : structPl Try.prog 44 = some [(0, 1), (1, 1)] := by kernel_rfl
theorem tHA44 : hasAll Try.prog 44 = true := by kernel_rfl
theorem tA44 : tAgg Try.prog 44 2 = true := by kernel_rfl
theorem tL25 : tSl Try.prog 25 3 1 8 = true := by kernel_rfl
theorem tZ_3 : Try.prog.cellsOf 3 = 1 := by kernel_rfl
theorem tF44_1 : tFld Try.prog 44 1 1 = true := by kernel_rfl
theorem tF44_0 : tFld Try.prog 44 0 0 = true := by kernel_rfl
theorem tZ81 : zeroOf Try.prog 81 = some [.bool false, .int .u64 0, .int .u64 0] := by kernel_rfl
theorem tZ_81 : Try.prog.cellsOf 81 = 3 := by kernel_rfl
theorem tI71 : tInt Try.prog 71 .u64 = true := by kernel_rfl
theorem tPL81 : structPl Try.prog 81 = some [(0, 1), (1, 1), (2, 1)] := by kernel_rfl
theorem tHA81 : hasAll Try.prog 81 = true := by kernel_rfl
theorem tA81 : tAgg Try.prog 81 3 = true := by kernel_rfl
theorem tF81_0 : tFld Try.prog 81 0 0 = true := by kernel_rfl
theorem tS4 : tScal Try.prog 4 = true := by kernel_rfl
theorem tF81_2 : tFld Try.prog 81 2 2 = true := by kernel_rfl
theorem tS71 : tScal Try.prog 71 = true := by kernel_rfl
theorem tF81_1 : tFld Try.prog 81 1 1 = true := by kernel_rfl
theorem tI5 : tInt Try.prog 5 .u8 = true := by kernel_rfl
theorem tStr9 : tStr Try.prog 9 = true := by kernel_rfl
theorem tFS44 : flatSt Try.prog 44 [.i .i64, .i .i64] = true := by kernel_rfl
theorem tPL24 : structPl Try.prog 24 = some [(0, 1), (1, 1)] := by kernel_rfl
theorem tHA24 : hasAll Try.prog 24 = true := by kernel_rfl
theorem tZ24 : zeroOf Try.prog 24 = some [.int .i64 0, .slice none 0 0] := by kernel_rfl
def gl0 : Gl := ⟨0, []⟩
def R27 (x : api_Sample) : List AV := [.int .i64 x.At, .int .i64 x.N, .int .i64 x.Mark]
def R3 (x : Int) : List AV := [.int .i64 x]
theorem D3 (x : Int) : (R3 x).length = Try.prog.cellsOf 3 ∧ (R3 x).all datB = true := ⟨tZ_3.symm, rfl⟩

theorem ok_series_within {n : Int} {low : Int} {high : Int} {r : Bool} (h : series_within n low high = some r) :
    CSpec Try.prog gl0 25 [.int .i64 n, .int .i64 low, .int .i64 high] (.bool r) := by
  unfold series_within at h
  replace h := bnd0 h
  refine spec_of (by kernel_rfl) Try.func25 rfl rfl ?_
  intro w0 A
  refine T_seq (T_reg ?_)
  refine R_q _ rfl (v_assign (ov rfl)) ?_
  refine R_nil ?_
  refine T_seq (T_reg ?_)
  refine R_q _ rfl (v_move (ov rfl)) ?_
  refine R_q _ rfl (v_move (ov rfl)) ?_
  refine R_q _ rfl (v_geq (ov rfl) (ov rfl)) ?_
  refine R_q _ rfl (v_move (ov rfl)) ?_
  refine R_q _ rfl (.guarded ((decide (low ≤ n)) == true) rfl rfl rfl rfl fun h => v_move (ov rfl)) ?_
  refine R_q _ rfl (.guarded ((decide (low ≤ n)) == true) rfl rfl rfl rfl fun h => v_move (ov rfl)) ?_
  refine R_q _ rfl (.guarded ((decide (low ≤ n)) == true) rfl rfl rfl rfl fun h => v_leq (ow rfl h) (ow rfl h)) ?_
  refine R_q _ rfl (v_and (ov rfl) (fun hp => ow rfl (gT hp))) ?_
  refine R_q _ rfl (v_assign (ov rfl)) ?_
  refine R_nil ?_
  obtain rfl := rt (v := ((decide (low ≤ n)) && (decide (n ≤ high)))) h
  refine T_ret (retq ?_ (.one (.tmp rfl (Dat.view (.b rfl)))))
  rfl

theorem ok_series_check {s : api_Series} {r : Int × Int} (h : series_check s = some r) :
    CSpec Try.prog gl0 52 [.agg [.int .i64 s.Den, .sl 27 (List.map R27 s.Samples)]] (.tuple [.int .i64 r.1, .int .i64 r.2]) := by
  unfold series_check at h
  replace h := bnd0 h
  refine spec_of (by kernel_rfl) Try.func52 rfl rfl ?_
  intro w0 A
  refine T_seq (T_reg ?_)
  refine R_q _ rfl (v_boxD (cva (ov rfl)) rfl tZ_24 rfl) ?_
  refine R_q _ rfl (v_assign (ov rfl)) ?_
  refine R_q _ rfl (v_assign (ov rfl)) ?_
  refine R_nil ?_
  refine T_seq ?_
  refine T_keep (kc 1 rfl <| kn) rfl ?_
  refine T_seq (T_reg ?_)
  refine R_q _ rfl (v_fieldR (ov rfl) tF24_0) ?_
  refine R_q _ rfl (v_loadS_r (ov rfl) tS3 rfl) ?_
  obtain ⟨y, h_y, h⟩ := bnd h
  refine R_q _ rfl (v_call (ok_series_within h_y) (.cons (ov rfl) (.b rfl) <| .cons (ov rfl) (.b rfl) <| .cons (ov rfl) (.b rfl) <| .nil)) ?_
  refine R_q _ rfl (v_not (ov rfl)) ?_
  refine R_nil ?_
  refine T_keep (kc 1 rfl <| kc 9 rfl <| kn) rfl ?_
  refine T_if h rfl (fun b9 h => ?_) (fun b9 h => ?_)
  · skip
    refine T_keep (kn) rfl ?_
    refine T_seq (T_reg ?_)
    refine R_q _ rfl (v_assign (ov rfl)) ?_
    refine R_q _ rfl (v_assign (ov rfl)) ?_
    refine R_nil ?_
    obtain rfl := rt (v := ((-1), 9)) h
    refine T_ret (retq ?_ (.two (.tmp rfl (Dat.view (.b rfl))) (.tmp rfl (Dat.view (.b rfl)))))
    rfl
  · skip
    refine T_skip ?_
    refine T_seq ?_
    refine T_keep (kc 1 rfl <| kn) rfl ?_
    refine T_seq (T_reg ?_)
    refine R_q _ rfl (v_fieldR (ov rfl) tF24_1) ?_
    refine R_q _ rfl (v_loadS_r (ov rfl) tS22 rfl) ?_
    refine R_q _ rfl (v_len (slv_sl (ov rfl) tZ_27) tL22 (len_map _ _)) ?_
    refine R_q _ rfl (v_gtr (ov rfl) (ov rfl)) ?_
    refine R_nil ?_
    refine T_keep (kc 1 rfl <| kc 13 rfl <| kn) rfl ?_
    refine T_if h rfl (fun b13 h => ?_) (fun b13 h => ?_)
    · skip
      refine T_keep (kn) rfl ?_
      refine T_seq (T_reg ?_)
      refine R_q _ rfl (v_assign (ov rfl)) ?_
      refine R_q _ rfl (v_assign (ov rfl)) ?_
      refine R_nil ?_
      obtain rfl := rt (v := ((-1), 3)) h
      refine T_ret (retq ?_ (.two (.tmp rfl (Dat.view (.b rfl))) (.tmp rfl (Dat.view (.b rfl)))))
      rfl
    · skip
      refine T_skip ?_
      refine T_joinG (fun j => (.inr j)) (t0 ⟨[], []⟩) h (fun h => ?_) (fun j h => ?_)
      · skip
        refine T_keep (kc 1 rfl <| kn) rfl ?_
        refine T_seq (T_reg ?_)
        refine R_q _ rfl (v_fieldR (ov rfl) tF24_1) ?_
        refine R_q _ rfl (v_loadS_r (ov rfl) tS22 rfl) ?_
        refine R_q _ rfl (v_len (slv_sl (ov rfl) tZ_27) tL22 (len_map _ _)) ?_
        refine R_q _ rfl (v_move (ov rfl)) ?_
        refine R_nil ?_
        refine T_block ?_
        obtain ⟨r1, hl1, ho1⟩ := bndL h
        refine T_loopG _ (t1 fun i => ⟨[(1, .rp [.int .i64 s.Den, .sl 27 (List.map R27 s.Samples)] 0), (15, .sl 27 (List.map R27 s.Samples)), (16, .int .i64 (s.Samples.length : Int)), (17, .int .i64 i)], []⟩) _ hl1 (Ent.sel [] (sd 1 rfl rfl <| sd 15 rfl rfl <| sd 16 rfl rfl <| sd 17 rfl rfl <| sn) (.nil) rfl rfl) (fun n1 s1 h => ?_)
        obtain ⟨i, rfl⟩ : ∃ x, x = s1 := ⟨_, rfl⟩
        replace h := t1i h
        refine t1T ?_
        unfold series_check_L1 at h
        refine T_seq (T_reg ?_)
        refine R_q _ rfl (v_lss (ov rfl) (ov rfl)) ?_
        refine R_nil ?_
        refine T_seq ?_
        refine T_if h rfl (fun b18 h => ?_) (fun b18 h => ?_)
        · skip
          refine T_skip ?_
          refine T_seq ?_
          refine T_block ?_
          refine T_keep (kc 1 rfl <| kc 15 rfl <| kc 16 rfl <| kc 17 rfl <| kn) rfl ?_
          refine T_seq (T_reg ?_)
          refine R_q _ rfl (v_move (ov rfl)) ?_
          obtain ⟨x, h_x, h⟩ := bnd h
          refine R_q _ rfl (v_ixSG (ov rfl) (ov rfl) tL22 h_x) ?_
          refine R_q _ rfl (v_loadA_r (ov rfl) tA27 rfl rfl) ?_
          refine R_w _ _ rfl (w_alloc (row := [_, _, _]) 0 rfl tZ27 rfl tZ_27) ?_
          refine R_q _ rfl (v_assign (ov rfl)) ?_
          refine R_w _ _ rfl (w_store (ov rfl) (ov rfl) (cells_agg tA27 rfl) rfl rfl rfl (Nat.le_of_ble_eq_true rfl) (cell1_all rfl) rfl) ?_
          refine R_nil ?_
          refine T_block ?_
          refine T_keep (kc 1 rfl <| kc 4 rfl <| kc 5 rfl <| kc 15 rfl <| kc 16 rfl <| kc 17 rfl <| kn) rfl ?_
          refine T_seq (T_reg ?_)
          refine R_q _ rfl (v_fieldP (ov rfl) rfl rfl tF27_0) ?_
          refine R_q _ rfl (v_loadS (ov rfl) rfl rfl rfl tS3 rfl) ?_
          obtain ⟨y2, h_y2, h⟩ := bnd h
          refine R_q _ rfl (v_call (ok_series_within h_y2) (.cons (ov rfl) (.b rfl) <| .cons (ov rfl) (.b rfl) <| .cons (ov rfl) (.b rfl) <| .nil)) ?_
          refine R_q _ rfl (v_not (ov rfl)) ?_
          refine R_q _ rfl (v_move (ov rfl)) ?_
          refine R_q _ rfl (.guarded ((!y2) == false) rfl rfl rfl rfl fun h => v_fieldP (ov rfl) rfl rfl tF27_1) ?_
          refine R_q _ rfl (.guarded ((!y2) == false) rfl rfl rfl rfl fun h => v_loadS (ow rfl h) rfl rfl rfl tS3 rfl) ?_
          obtain ⟨y3, h_y3, h⟩ := bnd h
          refine R_q _ rfl (.guarded ((!y2) == false) rfl rfl rfl rfl fun h => v_call (ok_series_within (gdT h_y3 h)) (.cons (ow rfl h) (.b rfl) <| .cons (ov rfl) (.b rfl) <| .cons (ov rfl) (.b rfl) <| .nil)) ?_
          refine R_q _ rfl (.guarded ((!y2) == false) rfl rfl rfl rfl fun h => v_not (ow rfl h)) ?_
          refine R_q _ rfl (v_or (ov rfl) (fun hp => ow rfl (gF hp))) ?_
          refine R_q _ rfl (v_move (ov rfl)) ?_
          refine R_q _ rfl (.guarded (((!y2) || (!y3)) == false) rfl rfl rfl rfl fun h => v_fieldP (ov rfl) rfl rfl tF27_2) ?_
          refine R_q _ rfl (.guarded (((!y2) || (!y3)) == false) rfl rfl rfl rfl fun h => v_loadS (ow rfl h) rfl rfl rfl tS3 rfl) ?_
          obtain ⟨y4, h_y4, h⟩ := bnd h
          refine R_q _ rfl (.guarded (((!y2) || (!y3)) == false) rfl rfl rfl rfl fun h => v_call (ok_series_within (gdT h_y4 h)) (.cons (ow rfl h) (.b rfl) <| .cons (ov rfl) (.b rfl) <| .cons (ov rfl) (.b rfl) <| .nil)) ?_
          refine R_q _ rfl (.guarded (((!y2) || (!y3)) == false) rfl rfl rfl rfl fun h => v_not (ow rfl h)) ?_
          refine R_q _ rfl (v_or (ov rfl) (fun hp => ow rfl (gF hp))) ?_
          refine R_q _ rfl (v_assign (ov rfl)) ?_
          refine R_nil ?_
          refine T_keep (kc 1 rfl <| kc 4 rfl <| kc 5 rfl <| kc 15 rfl <| kc 16 rfl <| kc 17 rfl <| kc 22 rfl <| kn) rfl ?_
          refine T_if h rfl (fun b22 h => ?_) (fun b22 h => ?_)
          · skip
            refine T_keep (kc 4 rfl <| kn) rfl ?_
            refine T_seq (T_reg ?_)
            refine R_q _ rfl (v_move (ov rfl)) ?_
            refine R_q _ rfl (v_assign (ov rfl)) ?_
            refine R_q _ rfl (v_assign (ov rfl)) ?_
            refine R_nil ?_
            rw [lx h] at ho1
            replace h := ho1
            obtain rfl := rt (v := (i, 9)) h
            refine T_ret (retq ?_ (.two (.tmp rfl (Dat.view (.b rfl))) (.tmp rfl (Dat.view (.b rfl)))))
            rfl
          · skip
            refine T_keep (kc 1 rfl <| kc 4 rfl <| kc 5 rfl <| kc 15 rfl <| kc 16 rfl <| kc 17 rfl <| kn) rfl ?_
            refine T_seq (T_reg ?_)
            refine R_q _ rfl (v_fieldP (ov rfl) rfl rfl tF27_1) ?_
            refine R_q _ rfl (v_loadS (ov rfl) rfl rfl rfl tS3 rfl) ?_
            refine R_q _ rfl (v_neq (ov rfl) (ov rfl)) ?_
            refine R_q _ rfl (v_move (ov rfl)) ?_
            refine R_q _ rfl (.guarded ((!decide (x.N = 0)) == true) rfl rfl rfl rfl fun h => v_fieldP (ov rfl) rfl rfl tF27_2) ?_
            refine R_q _ rfl (.guarded ((!decide (x.N = 0)) == true) rfl rfl rfl rfl fun h => v_loadS (ow rfl h) rfl rfl rfl tS3 rfl) ?_
            refine R_q _ rfl (.guarded ((!decide (x.N = 0)) == true) rfl rfl rfl rfl fun h => v_leq (ow rfl h) (ov rfl)) ?_
            refine R_q _ rfl (v_and (ov rfl) (fun hp => ow rfl (gT hp))) ?_
            refine R_q _ rfl (v_assign (ov rfl)) ?_
            refine R_nil ?_
            refine T_keep (kc 1 rfl <| kc 4 rfl <| kc 5 rfl <| kc 15 rfl <| kc 16 rfl <| kc 17 rfl <| kc 40 rfl <| kn) rfl ?_
            refine T_if h rfl (fun b40 h => ?_) (fun b40 h => ?_)
            · skip
              refine T_keep (kc 4 rfl <| kn) rfl ?_
              refine T_seq (T_reg ?_)
              refine R_q _ rfl (v_move (ov rfl)) ?_
              refine R_q _ rfl (v_assign (ov rfl)) ?_
              refine R_q _ rfl (v_assign (ov rfl)) ?_
              refine R_nil ?_
              rw [lx h] at ho1
              replace h := ho1
              obtain rfl := rt (v := (i, 2)) h
              refine T_ret (retq ?_ (.two (.tmp rfl (Dat.view (.b rfl))) (.tmp rfl (Dat.view (.b rfl)))))
              rfl
            · skip
              refine T_keep (kc 1 rfl <| kc 4 rfl <| kc 5 rfl <| kc 15 rfl <| kc 16 rfl <| kc 17 rfl <| kn) rfl ?_
              refine T_seq (T_draw (cw := md0) (by kernel_rfl) ?_)
              refine D_free 0 _ rfl (by kernel_rfl) rfl rfl (fun hp' => v_move (ov rfl)) ?_
              refine D_free 1 _ rfl (by kernel_rfl) rfl rfl (fun hp' => v_gtr (ov rfl) (ov rfl)) ?_
              refine D_free 2 _ rfl (by kernel_rfl) rfl rfl (fun hp' => v_move (ov rfl)) ?_
              refine D_read 3 _ rfl (by kernel_rfl) rfl rfl rfl ExtW.refl (fun hp' hx => .guarded ((decide (0 < i)) == true) rfl rfl rfl rfl fun h => v_fieldP (ov rfl) (hx.get rfl rfl) rfl tF27_0) ?_
              refine D_read 4 _ rfl (by kernel_rfl) rfl rfl rfl ExtW.refl (fun hp' hx => .guarded ((decide (0 < i)) == true) rfl rfl rfl rfl fun h => v_loadS (ow rfl h) (hx.get rfl rfl) rfl rfl tS3 rfl) ?_
              refine D_read 5 _ rfl (by kernel_rfl) rfl rfl rfl ExtW.refl (fun hp' hx => .guarded ((decide (0 < i)) == true) rfl rfl rfl rfl fun h => v_fieldR (ov rfl) tF24_1) ?_
              refine D_read 6 _ rfl (by kernel_rfl) rfl rfl rfl ExtW.refl (fun hp' hx => .guarded ((decide (0 < i)) == true) rfl rfl rfl rfl fun h => v_loadS_r (ow rfl h) tS22 rfl) ?_
              refine D_free 7 _ rfl (by kernel_rfl) rfl rfl (fun hp' => .guarded ((decide (0 < i)) == true) rfl rfl rfl rfl fun h => v_move (ov rfl)) ?_
              refine D_free 8 _ rfl (by kernel_rfl) rfl rfl (fun hp' => .guarded ((decide (0 < i)) == true) rfl rfl rfl rfl fun h => v_sub (ow rfl h) (ov rfl) rfl) ?_
              obtain ⟨x2, h_x2, h⟩ := bnd h
              refine D_read 9 _ rfl (by kernel_rfl) rfl rfl rfl ExtW.refl (fun hp' hx => .guarded ((decide (0 < i)) == true) rfl rfl rfl rfl fun h => v_ixSG (ow rfl h) (ow rfl h) tL22 (gdT h_x2 h)) ?_
              refine D_read 10 _ rfl (by kernel_rfl) rfl rfl rfl ExtW.refl (fun hp' hx => .guarded ((decide (0 < i)) == true) rfl rfl rfl rfl fun h => v_fieldR (ow rfl h) tF27_0) ?_
              refine D_read 11 _ rfl (by kernel_rfl) rfl rfl rfl ExtW.refl (fun hp' hx => .guarded ((decide (0 < i)) == true) rfl rfl rfl rfl fun h => v_loadS_r (ow rfl h) tS3 rfl) ?_
              refine D_free 12 _ rfl (by kernel_rfl) rfl rfl (fun hp' => .guarded ((decide (0 < i)) == true) rfl rfl rfl rfl fun h => v_leq (ow rfl h) (ow rfl h)) ?_
              refine D_free 13 _ rfl (by kernel_rfl) rfl rfl (fun hp' => v_and (ov rfl) (fun hp => ow rfl (gT hp))) ?_
              refine D_free 14 _ rfl (by kernel_rfl) rfl rfl (fun hp' => v_assign (ov rfl)) ?_
              refine D_done (by kernel_rfl) ?_
              refine T_keep (kc 1 rfl <| kc 4 rfl <| kc 15 rfl <| kc 16 rfl <| kc 17 rfl <| kc 50 rfl <| kn) rfl ?_
              refine T_if h rfl (fun b50 h => ?_) (fun b50 h => ?_)
              · skip
                refine T_keep (kc 4 rfl <| kn) rfl ?_
                refine T_seq (T_reg ?_)
                refine R_q _ rfl (v_move (ov rfl)) ?_
                refine R_q _ rfl (v_assign (ov rfl)) ?_
                refine R_q _ rfl (v_assign (ov rfl)) ?_
                refine R_nil ?_
                rw [lx h] at ho1
                replace h := ho1
                obtain rfl := rt (v := (i, 10)) h
                refine T_ret (retq ?_ (.two (.tmp rfl (Dat.view (.b rfl))) (.tmp rfl (Dat.view (.b rfl)))))
                rfl
              · skip
                refine T_skip ?_
                refine T_keep (kc 1 rfl <| kc 15 rfl <| kc 16 rfl <| kc 17 rfl <| kn) rfl ?_
                refine T_reg ?_
                refine R_q _ rfl (v_add (ov rfl) (ov rfl) rfl) ?_
                refine R_q _ rfl (v_move (ov rfl)) ?_
                refine R_nil ?_
                exact ⟨(i64 (i + 1)), h, Ent.sel [] (sd 1 rfl rfl <| sd 15 rfl rfl <| sd 16 rfl rfl <| sd 17 rfl rfl <| sn) (.nil) rfl rfl⟩
        · skip
          refine T_exit ?_
          rw [lx h] at ho1
          replace h := ho1
          exact ⟨(), h, Ent.sel [] (sn) (.nil) rfl rfl⟩
      · skip
        replace h := elr h
        cases j
        replace h := t0i h
        refine t0T ?_
        refine T_seq (T_reg ?_)
        refine R_q _ rfl (v_assign (ov rfl)) ?_
        refine R_q _ rfl (v_assign (ov rfl)) ?_
        refine R_nil ?_
        obtain rfl := rt (v := ((-1), 0)) h
        refine T_ret (retq ?_ (.two (.tmp rfl (Dat.view (.b rfl))) (.tmp rfl (Dat.view (.b rfl)))))
        rfl

theorem ok_series_Check {s : api_Series} {r : Int} (h : series_Check s = some r) :
    CSpec Try.prog gl0 24 [.agg [.int .i64 s.Den, .sl 27 (List.map R27 s.Samples)]] (.int .i64 r) := by
  unfold series_Check at h
  replace h := bnd0 h
  refine spec_of (by kernel_rfl) Try.func24 rfl rfl ?_
  intro w0 A
  refine T_seq (T_reg ?_)
  refine R_q _ rfl (v_boxD (cva (ov rfl)) rfl tZ_24 rfl) ?_
  refine R_q _ rfl (v_assign (ov rfl)) ?_
  refine R_nil ?_
  refine T_keep (kc 1 rfl <| kn) rfl ?_
  refine T_seq (T_reg ?_)
  refine R_q _ rfl (v_loadA_r (ov rfl) tA24 rfl rfl) ?_
  obtain ⟨y, h_y, h⟩ := bnd h
  refine R_q _ rfl (v_call (ok_series_check h_y) (.cons (ov rfl) (.aggB rfl) <| .nil)) ?_
  refine R_q _ rfl (v_move (ov rfl)) ?_
  refine R_q _ rfl (v_extract (ov rfl) rfl) ?_
  refine R_q _ rfl (v_extract (ov rfl) rfl) ?_
  refine R_q _ rfl (v_assign (ov rfl)) ?_
  refine R_q _ rfl (v_assign (ov rfl)) ?_
  refine R_nil ?_
  refine T_keep (kc 4 rfl <| kn) rfl ?_
  refine T_seq (T_reg ?_)
  refine R_q _ rfl (v_move (ov rfl)) ?_
  refine R_q _ rfl (v_assign (ov rfl)) ?_
  refine R_nil ?_
  obtain rfl := rt (v := y.2) h
  refine T_ret (retq ?_ (.one (.tmp rfl (Dat.view (.b rfl)))))
  rfl

theorem ok_slices_BinarySearchFunc_api_Sample_api_Sample_int {x : List api_Sample} {target : Int} {cmp : api_Sample → Int → Option Int} {r : Int × Bool} {cmp_f : FuncId} {cmp_c : List AV} (cmp_d : cmp_c.all datB = true) (cmp_h : ∀ (z0 : api_Sample) (z1 : Int) z, cmp z0 z1 = some z → CSpec Try.prog gl0 cmp_f ([.agg [.int .i64 z0.At, .int .i64 z0.N, .int .i64 z0.Mark], .int .i64 z1] ++ cmp_c) (.int .i64 z)) (h : slices_BinarySearchFunc_api_Sample_api_Sample_int x target cmp = some r) :
    CSpec Try.prog gl0 65 [.sl 27 (List.map R27 x), .int .i64 target, .fn cmp_f cmp_c] (.tuple [.int .i64 r.1, .bool r.2]) := by
  unfold slices_BinarySearchFunc_api_Sample_api_Sample_int at h
  replace h := bnd0 h
  refine spec_of (by kernel_rfl) Try.func65 rfl rfl ?_
  intro w0 A
  refine T_seq (T_reg ?_)
  refine R_q _ rfl (v_assign (ov rfl)) ?_
  refine R_q _ rfl (v_assign (ov rfl)) ?_
  refine R_nil ?_
  refine T_keep (kc 0 rfl <| kc 1 rfl <| kc 2 rfl <| kn) rfl ?_
  refine T_seq (T_reg ?_)
  refine R_q _ rfl (v_move (ov rfl)) ?_
  refine R_q _ rfl (v_len (slv_sl (ov rfl) tZ_27) tL22 (len_map _ _)) ?_
  refine R_q _ rfl (v_assign (ov rfl)) ?_
  refine R_nil ?_
  refine T_keep (kc 0 rfl <| kc 1 rfl <| kc 2 rfl <| kc 8 rfl <| kn) rfl ?_
  refine T_seq (T_reg ?_)
  refine R_q _ rfl (v_move (ov rfl)) ?_
  refine R_q _ rfl (v_assign (ov rfl)) ?_
  refine R_q _ rfl (v_assign (ov rfl)) ?_
  refine R_nil ?_
  refine T_joinG id (t1 fun i => ⟨[(0, .sl 27 (List.map R27 x)), (1, .int .i64 target), (2, .fn cmp_f cmp_c), (8, .int .i64 (x.length : Int)), (9, .int .i64 i)], []⟩) h (fun h => ?_) (fun j h => ?_)
  · skip
    refine T_block ?_
    obtain ⟨r1, hl1, ho1⟩ := bndL h
    refine T_loopG _ (t2 fun i2 j => ⟨[(0, .sl 27 (List.map R27 x)), (1, .int .i64 target), (2, .fn cmp_f cmp_c), (8, .int .i64 (x.length : Int)), (9, .int .i64 i2), (10, .int .i64 j)], []⟩) _ hl1 (Ent.sel [] (sd 0 rfl rfl <| sd 1 rfl rfl <| sr 2 rfl (rFn (rld cmp_d)) <| sd 8 rfl rfl <| sd 9 rfl rfl <| sd 10 rfl rfl <| sn) (.nil) rfl rfl) (fun n1 s1 h => ?_)
    obtain ⟨i2, j⟩ := s1
    replace h := t2i h
    refine t2T ?_
    unfold slices_BinarySearchFunc_api_Sample_api_Sample_int_L1 at h
    refine T_seq ?_
    refine T_seq (T_reg ?_)
    refine R_q _ rfl (v_move (ov rfl)) ?_
    refine R_q _ rfl (v_move (ov rfl)) ?_
    refine R_q _ rfl (v_lss (ov rfl) (ov rfl)) ?_
    refine R_nil ?_
    refine T_keep (kc 0 rfl <| kc 1 rfl <| kc 2 rfl <| kc 8 rfl <| kc 9 rfl <| kc 10 rfl <| kc 17 rfl <| kn) rfl ?_
    refine T_if h rfl (fun b17 h => ?_) (fun b17 h => ?_)
    · skip
      refine T_skip ?_
      refine T_block ?_
      refine T_keep (kc 0 rfl <| kc 1 rfl <| kc 2 rfl <| kc 8 rfl <| kc 9 rfl <| kc 10 rfl <| kn) rfl ?_
      refine T_seq (T_reg ?_)
      refine R_q _ rfl (v_move (ov rfl)) ?_
      refine R_q _ rfl (v_move (ov rfl)) ?_
      refine R_q _ rfl (v_add (ov rfl) (ov rfl) rfl) ?_
      refine R_q _ rfl (v_conv (ov rfl) tI3 tI89 rfl) ?_
      obtain ⟨q, h_q, h⟩ := bnd h
      refine R_q _ rfl (v_shrG (ov rfl) (ov rfl) h_q) ?_
      refine R_q _ rfl (v_conv (ov rfl) tI89 tI3 rfl) ?_
      refine R_q _ rfl (v_assign (ov rfl)) ?_
      refine R_nil ?_
      refine T_keep (kc 0 rfl <| kc 1 rfl <| kc 2 rfl <| kc 8 rfl <| kc 9 rfl <| kc 10 rfl <| kc 11 rfl <| kn) rfl ?_
      refine T_seq (T_reg ?_)
      refine R_q _ rfl (v_move (ov rfl)) ?_
      refine R_q _ rfl (v_move (ov rfl)) ?_
      refine R_q _ rfl (v_move (ov rfl)) ?_
      obtain ⟨x2, h_x2, h⟩ := bnd h
      refine R_q _ rfl (v_ixSG (ov rfl) (ov rfl) tL22 h_x2) ?_
      refine R_q _ rfl (v_loadA_r (ov rfl) tA27 rfl rfl) ?_
      refine R_q _ rfl (v_move (ov rfl)) ?_
      obtain ⟨y, h_y, h⟩ := bnd h
      refine R_q _ rfl (v_callC (ov rfl) cmp_d (cmp_h _ _ _ h_y) (.cons (ov rfl) (.aggB rfl) <| .cons (ov rfl) (.b rfl) <| .nil)) ?_
      refine R_q _ rfl (v_lss (ov rfl) (ov rfl)) ?_
      refine R_nil ?_
      refine T_keep (kc 0 rfl <| kc 1 rfl <| kc 2 rfl <| kc 8 rfl <| kc 9 rfl <| kc 10 rfl <| kc 11 rfl <| kc 31 rfl <| kn) rfl ?_
      refine T_if h rfl (fun b31 h => ?_) (fun b31 h => ?_)
      · skip
        refine T_keep (kc 0 rfl <| kc 1 rfl <| kc 2 rfl <| kc 8 rfl <| kc 9 rfl <| kc 10 rfl <| kc 11 rfl <| kn) rfl ?_
        refine T_reg ?_
        refine R_q _ rfl (v_move (ov rfl)) ?_
        refine R_q _ rfl (v_add (ov rfl) (ov rfl) rfl) ?_
        refine R_q _ rfl (v_assign (ov rfl)) ?_
        refine R_nil ?_
        exact ⟨((i64 ((i64 q) + 1)), j), h, Ent.sel [] (sd 0 rfl rfl <| sd 1 rfl rfl <| sr 2 rfl (rFn (rld cmp_d)) <| sd 8 rfl rfl <| sd 9 rfl rfl <| sd 10 rfl rfl <| sn) (.nil) rfl rfl⟩
      · skip
        refine T_keep (kc 0 rfl <| kc 1 rfl <| kc 2 rfl <| kc 8 rfl <| kc 9 rfl <| kc 10 rfl <| kc 11 rfl <| kn) rfl ?_
        refine T_reg ?_
        refine R_q _ rfl (v_move (ov rfl)) ?_
        refine R_q _ rfl (v_assign (ov rfl)) ?_
        refine R_nil ?_
        exact ⟨(i2, (i64 q)), h, Ent.sel [] (sd 0 rfl rfl <| sd 1 rfl rfl <| sr 2 rfl (rFn (rld cmp_d)) <| sd 8 rfl rfl <| sd 9 rfl rfl <| sd 10 rfl rfl <| sn) (.nil) rfl rfl⟩
    · skip
      refine T_exit ?_
      rw [lx h] at ho1
      replace h := ho1
      exact ⟨i2, h, Ent.sel [] (sd 0 rfl rfl <| sd 1 rfl rfl <| sr 2 rfl (rFn (rld cmp_d)) <| sd 8 rfl rfl <| sd 9 rfl rfl <| sn) (.nil) rfl rfl⟩
  · skip
    obtain ⟨i, rfl⟩ : ∃ x, x = j := ⟨_, rfl⟩
    replace h := t1i h
    refine t1T ?_
    refine T_seq (T_reg ?_)
    refine R_q _ rfl (v_move (ov rfl)) ?_
    refine R_q _ rfl (v_move (ov rfl)) ?_
    refine R_q _ rfl (v_move (ov rfl)) ?_
    refine R_q _ rfl (v_lss (ov rfl) (ov rfl)) ?_
    refine R_q _ rfl (v_move (ov rfl)) ?_
    refine R_q _ rfl (.guarded ((decide (i < (x.length : Int))) == true) rfl rfl rfl rfl fun h => v_move (ov rfl)) ?_
    refine R_q _ rfl (.guarded ((decide (i < (x.length : Int))) == true) rfl rfl rfl rfl fun h => v_move (ov rfl)) ?_
    refine R_q _ rfl (.guarded ((decide (i < (x.length : Int))) == true) rfl rfl rfl rfl fun h => v_move (ov rfl)) ?_
    obtain ⟨x3, h_x3, h⟩ := bnd h
    refine R_q _ rfl (.guarded ((decide (i < (x.length : Int))) == true) rfl rfl rfl rfl fun h => v_ixSG (ow rfl h) (ow rfl h) tL22 (gdT h_x3 h)) ?_
    refine R_q _ rfl (.guarded ((decide (i < (x.length : Int))) == true) rfl rfl rfl rfl fun h => v_loadA_r (ow rfl h) tA27 rfl rfl) ?_
    refine R_q _ rfl (.guarded ((decide (i < (x.length : Int))) == true) rfl rfl rfl rfl fun h => v_move (ov rfl)) ?_
    obtain ⟨y2, h_y2, h⟩ := bnd h
    refine R_q _ rfl (.guarded ((decide (i < (x.length : Int))) == true) rfl rfl rfl rfl fun h => v_callC (ow rfl h) cmp_d (cmp_h _ _ _ (gdT h_y2 h)) (.cons (ow rfl h) (.aggB rfl) <| .cons (ow rfl h) (.b rfl) <| .nil)) ?_
    refine R_q _ rfl (.guarded ((decide (i < (x.length : Int))) == true) rfl rfl rfl rfl fun h => v_eql (ow rfl h) (ov rfl)) ?_
    refine R_q _ rfl (v_and (ov rfl) (fun hp => ow rfl (gT hp))) ?_
    refine R_q _ rfl (v_assign (ov rfl)) ?_
    refine R_q _ rfl (v_assign (ov rfl)) ?_
    refine R_nil ?_
    obtain rfl := rt (v := (i, ((decide (i < (x.length : Int))) && (decide (y2 = 0))))) h
    refine T_ret (retq ?_ (.two (.tmp rfl (Dat.view (.b rfl))) (.tmp rfl (Dat.view (.b rfl)))))
    rfl

theorem ok_series_latest_1 {x : api_Sample} {at_ : Int} {r : Int} (h : series_latest_1 x at_ = some r) :
    CSpec Try.prog gl0 66 [.agg [.int .i64 x.At, .int .i64 x.N, .int .i64 x.Mark], .int .i64 at_] (.int .i64 r) := by
  unfold series_latest_1 at h
  replace h := bnd0 h
  refine spec_of (by kernel_rfl) Try.func66 rfl rfl ?_
  intro w0 A
  refine T_seq (T_reg ?_)
  refine R_q _ rfl (v_boxD (cva (ov rfl)) rfl tZ_27 rfl) ?_
  refine R_q _ rfl (v_assign (ov rfl)) ?_
  refine R_nil ?_
  refine T_keep (kc 1 rfl <| kc 2 rfl <| kc 4 rfl <| kn) rfl ?_
  refine T_seq (T_reg ?_)
  refine R_q _ rfl (v_fieldR (ov rfl) tF27_0) ?_
  refine R_q _ rfl (v_loadS_r (ov rfl) tS3 rfl) ?_
  refine R_q _ rfl (v_move (ov rfl)) ?_
  refine R_q _ rfl (v_sub (ov rfl) (ov rfl) rfl) ?_
  refine R_q _ rfl (v_assign (ov rfl)) ?_
  refine R_nil ?_
  obtain rfl := rt (v := (i64 (x.At - at_))) h
  refine T_ret (retq ?_ (.one (.tmp rfl (Dat.view (.b rfl)))))
  rfl

theorem ok_series_latest {s : api_Series} {at_ : Int} {r : Int} (h : series_latest s at_ = some r) :
    CSpec Try.prog gl0 53 [.agg [.int .i64 s.Den, .sl 27 (List.map R27 s.Samples)], .int .i64 at_] (.int .i64 r) := by
  unfold series_latest at h
  replace h := bnd0 h
  refine spec_of (by kernel_rfl) Try.func53 rfl rfl ?_
  intro w0 A
  refine T_seq (T_reg ?_)
  refine R_q _ rfl (v_boxD (cva (ov rfl)) rfl tZ_24 rfl) ?_
  refine R_q _ rfl (v_assign (ov rfl)) ?_
  refine R_nil ?_
  refine T_keep (kc 1 rfl <| kc 2 rfl <| kn) rfl ?_
  refine T_seq (T_reg ?_)
  refine R_q _ rfl (v_fieldR (ov rfl) tF24_1) ?_
  refine R_q _ rfl (v_loadS_r (ov rfl) tS22 rfl) ?_
  refine R_q _ rfl (v_move (ov rfl)) ?_
  obtain ⟨y, h_y, h⟩ := bnd h
  refine R_q _ rfl (v_call (ok_slices_BinarySearchFunc_api_Sample_api_Sample_int rfl (fun z0 z1 _ hz => ok_series_latest_1 hz) h_y) (.cons (ov rfl) (.b rfl) <| .cons (ov rfl) (.b rfl) <| .cons (ov rfl) (.fn) <| .nil)) ?_
  refine R_q _ rfl (v_move (ov rfl)) ?_
  refine R_q _ rfl (v_extract (ov rfl) rfl) ?_
  refine R_q _ rfl (v_extract (ov rfl) rfl) ?_
  refine R_q _ rfl (v_assign (ov rfl)) ?_
  refine R_q _ rfl (v_assign (ov rfl)) ?_
  refine R_nil ?_
  refine T_seq ?_
  refine T_keep (kc 5 rfl <| kc 6 rfl <| kn) rfl ?_
  refine T_seq (T_reg ?_)
  refine R_q _ rfl (v_move (ov rfl)) ?_
  refine R_nil ?_
  refine T_keep (kc 5 rfl <| kc 14 rfl <| kn) rfl ?_
  refine T_if h rfl (fun b14 h => ?_) (fun b14 h => ?_)
  · skip
    refine T_keep (kc 5 rfl <| kn) rfl ?_
    refine T_seq (T_reg ?_)
    refine R_q _ rfl (v_move (ov rfl)) ?_
    refine R_q _ rfl (v_assign (ov rfl)) ?_
    refine R_nil ?_
    obtain rfl := rt (v := y.1) h
    refine T_ret (retq ?_ (.one (.tmp rfl (Dat.view (.b rfl)))))
    rfl
  · skip
    refine T_skip ?_
    refine T_keep (kc 5 rfl <| kn) rfl ?_
    refine T_seq (T_reg ?_)
    refine R_q _ rfl (v_move (ov rfl)) ?_
    refine R_q _ rfl (v_sub (ov rfl) (ov rfl) rfl) ?_
    refine R_q _ rfl (v_assign (ov rfl)) ?_
    refine R_nil ?_
    obtain rfl := rt (v := (i64 (y.1 - 1))) h
    refine T_ret (retq ?_ (.one (.tmp rfl (Dat.view (.b rfl)))))
    rfl

theorem ok_series_solid {x : api_Sample} {r : Bool} (h : series_solid x = some r) :
    CSpec Try.prog gl0 43 [.agg [.int .i64 x.At, .int .i64 x.N, .int .i64 x.Mark]] (.bool r) := by
  unfold series_solid at h
  replace h := bnd0 h
  refine spec_of (by kernel_rfl) Try.func43 rfl rfl ?_
  intro w0 A
  refine T_seq (T_reg ?_)
  refine R_q _ rfl (v_boxD (cva (ov rfl)) rfl tZ_27 rfl) ?_
  refine R_q _ rfl (v_assign (ov rfl)) ?_
  refine R_nil ?_
  refine T_keep (kc 1 rfl <| kc 2 rfl <| kn) rfl ?_
  refine T_seq (T_reg ?_)
  refine R_q _ rfl (v_fieldR (ov rfl) tF27_2) ?_
  refine R_q _ rfl (v_loadS_r (ov rfl) tS3 rfl) ?_
  refine R_q _ rfl (v_geq (ov rfl) (ov rfl)) ?_
  refine R_q _ rfl (v_assign (ov rfl)) ?_
  refine R_nil ?_
  obtain rfl := rt (v := (decide (3 ≤ x.Mark))) h
  refine T_ret (retq ?_ (.one (.tmp rfl (Dat.view (.b rfl)))))
  rfl

theorem ok_series_hold {s : api_Series} {at_ : Int} {long : Int} {r : api_Sample × Bool} (h : series_hold s at_ long = some r) :
    CSpec Try.prog gl0 26 [.agg [.int .i64 s.Den, .sl 27 (List.map R27 s.Samples)], .int .i64 at_, .int .i64 long] (.tuple [.agg [.int .i64 r.1.At, .int .i64 r.1.N, .int .i64 r.1.Mark], .bool r.2]) := by
  unfold series_hold at h
  replace h := bnd0 h
  refine spec_of (by kernel_rfl) Try.func26 rfl rfl ?_
  intro w0 A
  refine T_seq (T_reg ?_)
  refine R_q _ rfl (v_boxD (cva (ov rfl)) rfl tZ_24 rfl) ?_
  refine R_w _ _ rfl (w_alloc (row := [_, _, _]) 0 rfl tZ27 rfl tZ_27) ?_
  refine R_q _ rfl (v_assign (ov rfl)) ?_
  refine R_nil ?_
  refine T_keep (kc 1 rfl <| kc 2 rfl <| kc 3 rfl <| kc 6 rfl <| kn) rfl ?_
  refine T_seq (T_reg ?_)
  refine R_q _ rfl (v_loadA_r (ov rfl) tA24 rfl rfl) ?_
  refine R_q _ rfl (v_move (ov rfl)) ?_
  obtain ⟨y, h_y, h⟩ := bnd h
  refine R_q _ rfl (v_call (ok_series_latest h_y) (.cons (ov rfl) (.aggB rfl) <| .cons (ov rfl) (.b rfl) <| .nil)) ?_
  refine R_q _ rfl (v_assign (ov rfl)) ?_
  refine R_nil ?_
  refine T_seq ?_
  refine T_keep (kc 1 rfl <| kc 2 rfl <| kc 3 rfl <| kc 6 rfl <| kc 8 rfl <| kn) rfl ?_
  refine T_seq (T_reg ?_)
  refine R_q _ rfl (v_move (ov rfl)) ?_
  refine R_q _ rfl (v_lss (ov rfl) (ov rfl)) ?_
  refine R_q _ rfl (v_move (ov rfl)) ?_
  refine R_q _ rfl (.guarded ((decide (y < 0)) == false) rfl rfl rfl rfl fun h => v_fieldR (ov rfl) tF24_1) ?_
  refine R_q _ rfl (.guarded ((decide (y < 0)) == false) rfl rfl rfl rfl fun h => v_loadS_r (ow rfl h) tS22 rfl) ?_
  refine R_q _ rfl (.guarded ((decide (y < 0)) == false) rfl rfl rfl rfl fun h => v_move (ov rfl)) ?_
  obtain ⟨x, h_x, h⟩ := bnd h
  refine R_q _ rfl (.guarded ((decide (y < 0)) == false) rfl rfl rfl rfl fun h => v_ixSG (ow rfl h) (ow rfl h) tL22 (gdT h_x h)) ?_
  refine R_q _ rfl (.guarded ((decide (y < 0)) == false) rfl rfl rfl rfl fun h => v_loadA_r (ow rfl h) tA27 rfl rfl) ?_
  obtain ⟨y2, h_y2, h⟩ := bnd h
  refine R_q _ rfl (.guarded ((decide (y < 0)) == false) rfl rfl rfl rfl fun h => v_call (ok_series_solid (gdT h_y2 h)) (.cons (ow rfl h) (.aggB rfl) <| .nil)) ?_
  refine R_q _ rfl (.guarded ((decide (y < 0)) == false) rfl rfl rfl rfl fun h => v_not (ow rfl h)) ?_
  refine R_q _ rfl (v_or (ov rfl) (fun hp => ow rfl (gF hp))) ?_
  refine R_q _ rfl (v_move (ov rfl)) ?_
  refine R_q _ rfl (.guarded (((decide (y < 0)) || (!y2)) == false) rfl rfl rfl rfl fun h => v_move (ov rfl)) ?_
  refine R_q _ rfl (.guarded (((decide (y < 0)) || (!y2)) == false) rfl rfl rfl rfl fun h => v_fieldR (ov rfl) tF24_1) ?_
  refine R_q _ rfl (.guarded (((decide (y < 0)) || (!y2)) == false) rfl rfl rfl rfl fun h => v_loadS_r (ow rfl h) tS22 rfl) ?_
  refine R_q _ rfl (.guarded (((decide (y < 0)) || (!y2)) == false) rfl rfl rfl rfl fun h => v_move (ov rfl)) ?_
  obtain ⟨x2, h_x2, h⟩ := bnd h
  refine R_q _ rfl (.guarded (((decide (y < 0)) || (!y2)) == false) rfl rfl rfl rfl fun h => v_ixSG (ow rfl h) (ow rfl h) tL22 (gdT h_x2 h)) ?_
  refine R_q _ rfl (.guarded (((decide (y < 0)) || (!y2)) == false) rfl rfl rfl rfl fun h => v_fieldR (ow rfl h) tF27_0) ?_
  refine R_q _ rfl (.guarded (((decide (y < 0)) || (!y2)) == false) rfl rfl rfl rfl fun h => v_loadS_r (ow rfl h) tS3 rfl) ?_
  refine R_q _ rfl (.guarded (((decide (y < 0)) || (!y2)) == false) rfl rfl rfl rfl fun h => v_sub (ow rfl h) (ow rfl h) rfl) ?_
  refine R_q _ rfl (.guarded (((decide (y < 0)) || (!y2)) == false) rfl rfl rfl rfl fun h => v_move (ov rfl)) ?_
  refine R_q _ rfl (.guarded (((decide (y < 0)) || (!y2)) == false) rfl rfl rfl rfl fun h => v_gtr (ow rfl h) (ow rfl h)) ?_
  refine R_q _ rfl (v_or (ov rfl) (fun hp => ow rfl (gF hp))) ?_
  refine R_nil ?_
  refine T_keep (kc 3 rfl <| kc 6 rfl <| kc 8 rfl <| kc 34 rfl <| kn) rfl ?_
  refine T_if h rfl (fun b34 h => ?_) (fun b34 h => ?_)
  · skip
    refine T_keep (kc 6 rfl <| kn) rfl ?_
    refine T_seq (T_reg ?_)
    refine R_q _ rfl (v_build (ys := [_, _, _]) tPL27 tHA27 tZ27 (.nil) rfl) ?_
    refine R_w _ _ rfl (w_store (ov rfl) (ov rfl) (cells_agg tA27 rfl) rfl rfl rfl (Nat.le_of_ble_eq_true rfl) (cell1_all rfl) rfl) ?_
    refine R_q _ rfl (v_assign (ov rfl)) ?_
    refine R_nil ?_
    obtain rfl := rt (v := ((api_Sample.mk 0 0 0), false)) h
    refine T_ret (retq ?_ (.two (.agg rfl rfl rfl rfl tA27 rfl rfl (pwB rfl)) (.tmp rfl (Dat.view (.b rfl)))))
    rfl
  · skip
    refine T_skip ?_
    refine T_keep (kc 3 rfl <| kc 6 rfl <| kc 8 rfl <| kn) rfl ?_
    refine T_seq (T_reg ?_)
    refine R_q _ rfl (v_fieldR (ov rfl) tF24_1) ?_
    refine R_q _ rfl (v_loadS_r (ov rfl) tS22 rfl) ?_
    refine R_q _ rfl (v_move (ov rfl)) ?_
    obtain ⟨x3, h_x3, h⟩ := bnd h
    refine R_q _ rfl (v_ixSG (ov rfl) (ov rfl) tL22 h_x3) ?_
    refine R_q _ rfl (v_loadA_r (ov rfl) tA27 rfl rfl) ?_
    refine R_w _ _ rfl (w_store (ov rfl) (ov rfl) (cells_agg tA27 rfl) rfl rfl rfl (Nat.le_of_ble_eq_true rfl) (cell1_all rfl) rfl) ?_
    refine R_q _ rfl (v_assign (ov rfl)) ?_
    refine R_nil ?_
    obtain rfl := rt (v := (x3, true)) h
    refine T_ret (retq ?_ (.two (.agg rfl rfl rfl rfl tA27 rfl rfl (pwB rfl)) (.tmp rfl (Dat.view (.b rfl)))))
    rfl

theorem ok_series_Hold {s : api_Series} {at_ : Int} {long : Int} {r : api_Sample × Bool × Int} (h : series_Hold s at_ long = some r) :
    CSpec Try.prog gl0 8 [.agg [.int .i64 s.Den, .sl 27 (List.map R27 s.Samples)], .int .i64 at_, .int .i64 long] (.tuple [.agg [.int .i64 r.1.At, .int .i64 r.1.N, .int .i64 r.1.Mark], .bool r.2.1, .int .i64 r.2.2]) := by
  unfold series_Hold at h
  replace h := bnd0 h
  refine spec_of (by kernel_rfl) Try.func8 rfl rfl ?_
  intro w0 A
  refine T_seq (T_reg ?_)
  refine R_q _ rfl (v_boxD (cva (ov rfl)) rfl tZ_24 rfl) ?_
  refine R_w _ _ rfl (w_alloc (row := [_, _, _]) 0 rfl tZ27 rfl tZ_27) ?_
  refine R_q _ rfl (v_assign (ov rfl)) ?_
  refine R_q _ rfl (v_assign (ov rfl)) ?_
  refine R_nil ?_
  refine T_seq ?_
  refine T_keep (kc 1 rfl <| kc 2 rfl <| kc 3 rfl <| kc 6 rfl <| kn) rfl ?_
  refine T_seq (T_reg ?_)
  refine R_q _ rfl (v_loadA_r (ov rfl) tA24 rfl rfl) ?_
  obtain ⟨y, h_y, h⟩ := bnd h
  refine R_q _ rfl (v_call (ok_series_Check h_y) (.cons (ov rfl) (.aggB rfl) <| .nil)) ?_
  refine R_q _ rfl (v_assign (ov rfl)) ?_
  refine R_nil ?_
  refine T_keep (kc 1 rfl <| kc 2 rfl <| kc 3 rfl <| kc 6 rfl <| kc 9 rfl <| kn) rfl ?_
  refine T_seq (T_reg ?_)
  refine R_q _ rfl (v_move (ov rfl)) ?_
  refine R_q _ rfl (v_neq (ov rfl) (ov rfl)) ?_
  refine R_nil ?_
  refine T_keep (kc 1 rfl <| kc 2 rfl <| kc 3 rfl <| kc 6 rfl <| kc 9 rfl <| kc 15 rfl <| kn) rfl ?_
  refine T_if h rfl (fun b15 h => ?_) (fun b15 h => ?_)
  · skip
    refine T_keep (kc 6 rfl <| kc 9 rfl <| kn) rfl ?_
    refine T_seq (T_reg ?_)
    refine R_q _ rfl (v_build (ys := [_, _, _]) tPL27 tHA27 tZ27 (.nil) rfl) ?_
    refine R_q _ rfl (v_move (ov rfl)) ?_
    refine R_w _ _ rfl (w_store (ov rfl) (ov rfl) (cells_agg tA27 rfl) rfl rfl rfl (Nat.le_of_ble_eq_true rfl) (cell1_all rfl) rfl) ?_
    refine R_q _ rfl (v_assign (ov rfl)) ?_
    refine R_q _ rfl (v_assign (ov rfl)) ?_
    refine R_nil ?_
    obtain rfl := rt (v := ((api_Sample.mk 0 0 0), false, y)) h
    refine T_ret (retq ?_ (.three (.agg rfl rfl rfl rfl tA27 rfl rfl (pwB rfl)) (.tmp rfl (Dat.view (.b rfl))) (.tmp rfl (Dat.view (.b rfl)))))
    rfl
  · skip
    refine T_skip ?_
    refine T_seq ?_
    refine T_keep (kc 1 rfl <| kc 2 rfl <| kc 3 rfl <| kc 6 rfl <| kn) rfl ?_
    refine T_seq (T_reg ?_)
    refine R_q _ rfl (v_move (ov rfl)) ?_
    obtain ⟨y2, h_y2, h⟩ := bnd h
    refine R_q _ rfl (v_call (ok_series_within h_y2) (.cons (ov rfl) (.b rfl) <| .cons (ov rfl) (.b rfl) <| .cons (ov rfl) (.b rfl) <| .nil)) ?_
    refine R_q _ rfl (v_not (ov rfl)) ?_
    refine R_q _ rfl (v_move (ov rfl)) ?_
    refine R_q _ rfl (.guarded ((!y2) == false) rfl rfl rfl rfl fun h => v_move (ov rfl)) ?_
    obtain ⟨y3, h_y3, h⟩ := bnd h
    refine R_q _ rfl (.guarded ((!y2) == false) rfl rfl rfl rfl fun h => v_call (ok_series_within (gdT h_y3 h)) (.cons (ow rfl h) (.b rfl) <| .cons (ov rfl) (.b rfl) <| .cons (ov rfl) (.b rfl) <| .nil)) ?_
    refine R_q _ rfl (.guarded ((!y2) == false) rfl rfl rfl rfl fun h => v_not (ow rfl h)) ?_
    refine R_q _ rfl (v_or (ov rfl) (fun hp => ow rfl (gF hp))) ?_
    refine R_nil ?_
    refine T_keep (kc 1 rfl <| kc 2 rfl <| kc 3 rfl <| kc 6 rfl <| kc 25 rfl <| kn) rfl ?_
    refine T_if h rfl (fun b25 h => ?_) (fun b25 h => ?_)
    · skip
      refine T_keep (kc 6 rfl <| kn) rfl ?_
      refine T_seq (T_reg ?_)
      refine R_q _ rfl (v_build (ys := [_, _, _]) tPL27 tHA27 tZ27 (.nil) rfl) ?_
      refine R_w _ _ rfl (w_store (ov rfl) (ov rfl) (cells_agg tA27 rfl) rfl rfl rfl (Nat.le_of_ble_eq_true rfl) (cell1_all rfl) rfl) ?_
      refine R_q _ rfl (v_assign (ov rfl)) ?_
      refine R_q _ rfl (v_assign (ov rfl)) ?_
      refine R_nil ?_
      obtain rfl := rt (v := ((api_Sample.mk 0 0 0), false, 9)) h
      refine T_ret (retq ?_ (.three (.agg rfl rfl rfl rfl tA27 rfl rfl (pwB rfl)) (.tmp rfl (Dat.view (.b rfl))) (.tmp rfl (Dat.view (.b rfl)))))
      rfl
    · skip
      refine T_skip ?_
      refine T_keep (kc 1 rfl <| kc 2 rfl <| kc 3 rfl <| kc 6 rfl <| kn) rfl ?_
      refine T_seq (T_reg ?_)
      refine R_q _ rfl (v_loadA_r (ov rfl) tA24 rfl rfl) ?_
      refine R_q _ rfl (v_move (ov rfl)) ?_
      refine R_q _ rfl (v_move (ov rfl)) ?_
      obtain ⟨y4, h_y4, h⟩ := bnd h
      refine R_q _ rfl (v_call (ok_series_hold h_y4) (.cons (ov rfl) (.aggB rfl) <| .cons (ov rfl) (.b rfl) <| .cons (ov rfl) (.b rfl) <| .nil)) ?_
      refine R_q _ rfl (v_move (ov rfl)) ?_
      refine R_q _ rfl (v_extract (ov rfl) rfl) ?_
      refine R_q _ rfl (v_extract (ov rfl) rfl) ?_
      refine R_w _ _ rfl (w_alloc (row := [_, _, _]) 1 rfl tZ27 rfl tZ_27) ?_
      refine R_w _ _ rfl (w_store (ov rfl) (ov rfl) (cells_agg tA27 rfl) rfl rfl rfl (Nat.le_of_ble_eq_true rfl) (cell1_all rfl) rfl) ?_
      refine R_q _ rfl (v_assign (ov rfl)) ?_
      refine R_nil ?_
      refine T_keep (kc 6 rfl <| kc 10 rfl <| kc 11 rfl <| kn) rfl ?_
      refine T_seq (T_reg ?_)
      refine R_q _ rfl (v_loadA (ov rfl) rfl rfl rfl tA27 rfl rfl) ?_
      refine R_q _ rfl (v_move (ov rfl)) ?_
      refine R_w _ _ rfl (w_store (ov rfl) (ov rfl) (cells_agg tA27 rfl) rfl rfl rfl (Nat.le_of_ble_eq_true rfl) (cell1_all rfl) rfl) ?_
      refine R_q _ rfl (v_assign (ov rfl)) ?_
      refine R_q _ rfl (v_assign (ov rfl)) ?_
      refine R_nil ?_
      obtain rfl := rt (v := (y4.1, y4.2, 0)) h
      refine T_ret (retq ?_ (.three (.agg rfl rfl rfl rfl tA27 rfl rfl (pwB rfl)) (.tmp rfl (Dat.view (.b rfl))) (.tmp rfl (Dat.view (.b rfl)))))
      rfl

theorem ok_ref5_outside {n : Int} {low : Int} {high : Int} {r : Bool} (h : ref5_outside n low high = some r) :
    CSpec Try.prog gl0 33 [.int .i64 n, .int .i64 low, .int .i64 high] (.bool r) := by
  unfold ref5_outside at h
  replace h := bnd0 h
  refine spec_of (by kernel_rfl) Try.func33 rfl rfl ?_
  intro w0 A
  refine T_seq (T_reg ?_)
  refine R_q _ rfl (v_assign (ov rfl)) ?_
  refine R_nil ?_
  refine T_seq (T_reg ?_)
  refine R_q _ rfl (v_move (ov rfl)) ?_
  refine R_q _ rfl (v_move (ov rfl)) ?_
  refine R_q _ rfl (v_lss (ov rfl) (ov rfl)) ?_
  refine R_q _ rfl (v_move (ov rfl)) ?_
  refine R_q _ rfl (.guarded ((decide (n < low)) == false) rfl rfl rfl rfl fun h => v_move (ov rfl)) ?_
  refine R_q _ rfl (.guarded ((decide (n < low)) == false) rfl rfl rfl rfl fun h => v_move (ov rfl)) ?_
  refine R_q _ rfl (.guarded ((decide (n < low)) == false) rfl rfl rfl rfl fun h => v_gtr (ow rfl h) (ow rfl h)) ?_
  refine R_q _ rfl (v_or (ov rfl) (fun hp => ow rfl (gF hp))) ?_
  refine R_q _ rfl (v_assign (ov rfl)) ?_
  refine R_nil ?_
  obtain rfl := rt (v := ((decide (n < low)) || (decide (high < n)))) h
  refine T_ret (retq ?_ (.one (.tmp rfl (Dat.view (.b rfl)))))
  rfl

theorem ok_ref5_numbered {mark : Int} {r : Bool} (h : ref5_numbered mark = some r) :
    CSpec Try.prog gl0 69 [.int .i64 mark] (.bool r) := by
  unfold ref5_numbered at h
  replace h := bnd0 h
  refine spec_of (by kernel_rfl) Try.func69 rfl rfl ?_
  intro w0 A
  refine T_seq (T_reg ?_)
  refine R_q _ rfl (v_assign (ov rfl)) ?_
  refine R_nil ?_
  refine T_seq (T_reg ?_)
  refine R_q _ rfl (v_move (ov rfl)) ?_
  refine R_q _ rfl (v_geq (ov rfl) (ov rfl)) ?_
  refine R_q _ rfl (v_assign (ov rfl)) ?_
  refine R_nil ?_
  obtain rfl := rt (v := (decide (2 ≤ mark))) h
  refine T_ret (retq ?_ (.one (.tmp rfl (Dat.view (.b rfl)))))
  rfl

theorem ok_ref5_sampleFault {s : api_Sample} {r : Int} (h : ref5_sampleFault s = some r) :
    CSpec Try.prog gl0 67 [.agg [.int .i64 s.At, .int .i64 s.N, .int .i64 s.Mark]] (.int .i64 r) := by
  unfold ref5_sampleFault at h
  replace h := bnd0 h
  refine spec_of (by kernel_rfl) Try.func67 rfl rfl ?_
  intro w0 A
  refine T_seq (T_reg ?_)
  refine R_q _ rfl (v_boxD (cva (ov rfl)) rfl tZ_27 rfl) ?_
  refine R_q _ rfl (v_assign (ov rfl)) ?_
  refine R_nil ?_
  refine T_seq ?_
  refine T_keep (kc 1 rfl <| kn) rfl ?_
  refine T_seq (T_reg ?_)
  refine R_q _ rfl (v_fieldR (ov rfl) tF27_0) ?_
  refine R_q _ rfl (v_loadS_r (ov rfl) tS3 rfl) ?_
  obtain ⟨y, h_y, h⟩ := bnd h
  refine R_q _ rfl (v_call (ok_ref5_outside h_y) (.cons (ov rfl) (.b rfl) <| .cons (ov rfl) (.b rfl) <| .cons (ov rfl) (.b rfl) <| .nil)) ?_
  refine R_q _ rfl (v_move (ov rfl)) ?_
  refine R_q _ rfl (.guarded (y == false) rfl rfl rfl rfl fun h => v_fieldR (ov rfl) tF27_1) ?_
  refine R_q _ rfl (.guarded (y == false) rfl rfl rfl rfl fun h => v_loadS_r (ow rfl h) tS3 rfl) ?_
  obtain ⟨y2, h_y2, h⟩ := bnd h
  refine R_q _ rfl (.guarded (y == false) rfl rfl rfl rfl fun h => v_call (ok_ref5_outside (gdT h_y2 h)) (.cons (ow rfl h) (.b rfl) <| .cons (ov rfl) (.b rfl) <| .cons (ov rfl) (.b rfl) <| .nil)) ?_
  refine R_q _ rfl (v_or (ov rfl) (fun hp => ow rfl (gF hp))) ?_
  refine R_q _ rfl (v_move (ov rfl)) ?_
  refine R_q _ rfl (.guarded ((y || y2) == false) rfl rfl rfl rfl fun h => v_fieldR (ov rfl) tF27_2) ?_
  refine R_q _ rfl (.guarded ((y || y2) == false) rfl rfl rfl rfl fun h => v_loadS_r (ow rfl h) tS3 rfl) ?_
  obtain ⟨y3, h_y3, h⟩ := bnd h
  refine R_q _ rfl (.guarded ((y || y2) == false) rfl rfl rfl rfl fun h => v_call (ok_ref5_outside (gdT h_y3 h)) (.cons (ow rfl h) (.b rfl) <| .cons (ov rfl) (.b rfl) <| .cons (ov rfl) (.b rfl) <| .nil)) ?_
  refine R_q _ rfl (v_or (ov rfl) (fun hp => ow rfl (gF hp))) ?_
  refine R_nil ?_
  refine T_keep (kc 1 rfl <| kc 15 rfl <| kn) rfl ?_
  refine T_if h rfl (fun b15 h => ?_) (fun b15 h => ?_)
  · skip
    refine T_keep (kn) rfl ?_
    refine T_seq (T_reg ?_)
    refine R_q _ rfl (v_assign (ov rfl)) ?_
    refine R_nil ?_
    obtain rfl := rt (v := 9) h
    refine T_ret (retq ?_ (.one (.tmp rfl (Dat.view (.b rfl)))))
    rfl
  · skip
    refine T_skip ?_
    refine T_seq ?_
    refine T_keep (kc 1 rfl <| kn) rfl ?_
    refine T_seq (T_reg ?_)
    refine R_q _ rfl (v_fieldR (ov rfl) tF27_1) ?_
    refine R_q _ rfl (v_loadS_r (ov rfl) tS3 rfl) ?_
    refine R_q _ rfl (v_neq (ov rfl) (ov rfl)) ?_
    refine R_q _ rfl (v_move (ov rfl)) ?_
    refine R_q _ rfl (.guarded ((!decide (s.N = 0)) == true) rfl rfl rfl rfl fun h => v_fieldR (ov rfl) tF27_2) ?_
    refine R_q _ rfl (.guarded ((!decide (s.N = 0)) == true) rfl rfl rfl rfl fun h => v_loadS_r (ow rfl h) tS3 rfl) ?_
    obtain ⟨y4, h_y4, h⟩ := bnd h
    refine R_q _ rfl (.guarded ((!decide (s.N = 0)) == true) rfl rfl rfl rfl fun h => v_call (ok_ref5_numbered (gdT h_y4 h)) (.cons (ow rfl h) (.b rfl) <| .nil)) ?_
    refine R_q _ rfl (.guarded ((!decide (s.N = 0)) == true) rfl rfl rfl rfl fun h => v_not (ow rfl h)) ?_
    refine R_q _ rfl (v_and (ov rfl) (fun hp => ow rfl (gT hp))) ?_
    refine R_nil ?_
    refine T_keep (kc 24 rfl <| kn) rfl ?_
    refine T_if h rfl (fun b24 h => ?_) (fun b24 h => ?_)
    · skip
      refine T_keep (kn) rfl ?_
      refine T_seq (T_reg ?_)
      refine R_q _ rfl (v_assign (ov rfl)) ?_
      refine R_nil ?_
      obtain rfl := rt (v := 2) h
      refine T_ret (retq ?_ (.one (.tmp rfl (Dat.view (.b rfl)))))
      rfl
    · skip
      refine T_skip ?_
      refine T_keep (kn) rfl ?_
      refine T_seq (T_reg ?_)
      refine R_q _ rfl (v_assign (ov rfl)) ?_
      refine R_nil ?_
      obtain rfl := rt (v := 0) h
      refine T_ret (retq ?_ (.one (.tmp rfl (Dat.view (.b rfl)))))
      rfl

theorem ok_ref5_fault {s : api_Series} {r : Int × Int} (h : ref5_fault s = some r) :
    CSpec Try.prog gl0 55 [.agg [.int .i64 s.Den, .sl 27 (List.map R27 s.Samples)]] (.tuple [.int .i64 r.1, .int .i64 r.2]) := by
  unfold ref5_fault at h
  replace h := bnd0 h
  refine spec_of (by kernel_rfl) Try.func55 rfl rfl ?_
  intro w0 A
  refine T_seq (T_reg ?_)
  refine R_q _ rfl (v_boxD (cva (ov rfl)) rfl tZ_24 rfl) ?_
  refine R_q _ rfl (v_assign (ov rfl)) ?_
  refine R_q _ rfl (v_assign (ov rfl)) ?_
  refine R_nil ?_
  refine T_seq ?_
  refine T_keep (kc 1 rfl <| kn) rfl ?_
  refine T_seq (T_reg ?_)
  refine R_q _ rfl (v_fieldR (ov rfl) tF24_0) ?_
  refine R_q _ rfl (v_loadS_r (ov rfl) tS3 rfl) ?_
  obtain ⟨y, h_y, h⟩ := bnd h
  refine R_q _ rfl (v_call (ok_ref5_outside h_y) (.cons (ov rfl) (.b rfl) <| .cons (ov rfl) (.b rfl) <| .cons (ov rfl) (.b rfl) <| .nil)) ?_
  refine R_nil ?_
  refine T_keep (kc 1 rfl <| kc 8 rfl <| kn) rfl ?_
  refine T_if h rfl (fun b8 h => ?_) (fun b8 h => ?_)
  · skip
    refine T_keep (kn) rfl ?_
    refine T_seq (T_reg ?_)
    refine R_q _ rfl (v_assign (ov rfl)) ?_
    refine R_q _ rfl (v_assign (ov rfl)) ?_
    refine R_nil ?_
    obtain rfl := rt (v := ((-1), 9)) h
    refine T_ret (retq ?_ (.two (.tmp rfl (Dat.view (.b rfl))) (.tmp rfl (Dat.view (.b rfl)))))
    rfl
  · skip
    refine T_skip ?_
    refine T_seq ?_
    refine T_keep (kc 1 rfl <| kn) rfl ?_
    refine T_seq (T_reg ?_)
    refine R_q _ rfl (v_fieldR (ov rfl) tF24_1) ?_
    refine R_q _ rfl (v_loadS_r (ov rfl) tS22 rfl) ?_
    refine R_q _ rfl (v_len (slv_sl (ov rfl) tZ_27) tL22 (len_map _ _)) ?_
    refine R_q _ rfl (v_gtr (ov rfl) (ov rfl)) ?_
    refine R_nil ?_
    refine T_keep (kc 1 rfl <| kc 12 rfl <| kn) rfl ?_
    refine T_if h rfl (fun b12 h => ?_) (fun b12 h => ?_)
    · skip
      refine T_keep (kn) rfl ?_
      refine T_seq (T_reg ?_)
      refine R_q _ rfl (v_assign (ov rfl)) ?_
      refine R_q _ rfl (v_assign (ov rfl)) ?_
      refine R_nil ?_
      obtain rfl := rt (v := ((-1), 3)) h
      refine T_ret (retq ?_ (.two (.tmp rfl (Dat.view (.b rfl))) (.tmp rfl (Dat.view (.b rfl)))))
      rfl
    · skip
      refine T_skip ?_
      refine T_joinG (fun j => (.inr j)) (t0 ⟨[], []⟩) h (fun h => ?_) (fun j h => ?_)
      · skip
        refine T_keep (kc 1 rfl <| kn) rfl ?_
        refine T_seq (T_reg ?_)
        refine R_q _ rfl (v_assign (ov rfl)) ?_
        refine R_nil ?_
        refine T_block ?_
        obtain ⟨r1, hl1, ho1⟩ := bndL h
        refine T_loopG _ (t1 fun i => ⟨[(1, .rp [.int .i64 s.Den, .sl 27 (List.map R27 s.Samples)] 0), (4, .int .i64 i)], []⟩) _ hl1 (Ent.sel [] (sd 1 rfl rfl <| sd 4 rfl rfl <| sn) (.nil) rfl rfl) (fun n1 s1 h => ?_)
        obtain ⟨i, rfl⟩ : ∃ x, x = s1 := ⟨_, rfl⟩
        replace h := t1i h
        refine t1T ?_
        unfold ref5_fault_L1 at h
        refine T_seq ?_
        refine T_seq (T_reg ?_)
        refine R_q _ rfl (v_move (ov rfl)) ?_
        refine R_q _ rfl (v_fieldR (ov rfl) tF24_1) ?_
        refine R_q _ rfl (v_loadS_r (ov rfl) tS22 rfl) ?_
        refine R_q _ rfl (v_len (slv_sl (ov rfl) tZ_27) tL22 (len_map _ _)) ?_
        refine R_q _ rfl (v_lss (ov rfl) (ov rfl)) ?_
        refine R_nil ?_
        refine T_keep (kc 1 rfl <| kc 4 rfl <| kc 17 rfl <| kn) rfl ?_
        refine T_if h rfl (fun b17 h => ?_) (fun b17 h => ?_)
        · skip
          refine T_skip ?_
          refine T_seq ?_
          refine T_block ?_
          refine T_seq ?_
          refine T_keep (kc 1 rfl <| kc 4 rfl <| kn) rfl ?_
          refine T_seq (T_reg ?_)
          refine R_q _ rfl (v_fieldR (ov rfl) tF24_1) ?_
          refine R_q _ rfl (v_loadS_r (ov rfl) tS22 rfl) ?_
          refine R_q _ rfl (v_move (ov rfl)) ?_
          obtain ⟨x, h_x, h⟩ := bnd h
          refine R_q _ rfl (v_ixSG (ov rfl) (ov rfl) tL22 h_x) ?_
          refine R_q _ rfl (v_loadA_r (ov rfl) tA27 rfl rfl) ?_
          obtain ⟨y2, h_y2, h⟩ := bnd h
          refine R_q _ rfl (v_call (ok_ref5_sampleFault h_y2) (.cons (ov rfl) (.aggB rfl) <| .nil)) ?_
          refine R_q _ rfl (v_assign (ov rfl)) ?_
          refine R_nil ?_
          refine T_keep (kc 1 rfl <| kc 4 rfl <| kc 5 rfl <| kn) rfl ?_
          refine T_seq (T_reg ?_)
          refine R_q _ rfl (v_move (ov rfl)) ?_
          refine R_q _ rfl (v_neq (ov rfl) (ov rfl)) ?_
          refine R_nil ?_
          refine T_keep (kc 1 rfl <| kc 4 rfl <| kc 5 rfl <| kc 27 rfl <| kn) rfl ?_
          refine T_if h rfl (fun b27 h => ?_) (fun b27 h => ?_)
          · skip
            refine T_keep (kc 4 rfl <| kc 5 rfl <| kn) rfl ?_
            refine T_seq (T_reg ?_)
            refine R_q _ rfl (v_move (ov rfl)) ?_
            refine R_q _ rfl (v_move (ov rfl)) ?_
            refine R_q _ rfl (v_assign (ov rfl)) ?_
            refine R_q _ rfl (v_assign (ov rfl)) ?_
            refine R_nil ?_
            rw [lx h] at ho1
            replace h := ho1
            obtain rfl := rt (v := (i, y2)) h
            refine T_ret (retq ?_ (.two (.tmp rfl (Dat.view (.b rfl))) (.tmp rfl (Dat.view (.b rfl)))))
            rfl
          · skip
            refine T_skip ?_
            refine T_keep (kc 1 rfl <| kc 4 rfl <| kn) rfl ?_
            refine T_seq (T_draw (cw := md0) (by kernel_rfl) ?_)
            refine D_free 0 _ rfl (by kernel_rfl) rfl rfl (fun hp' => v_move (ov rfl)) ?_
            refine D_free 1 _ rfl (by kernel_rfl) rfl rfl (fun hp' => v_gtr (ov rfl) (ov rfl)) ?_
            refine D_free 2 _ rfl (by kernel_rfl) rfl rfl (fun hp' => v_move (ov rfl)) ?_
            refine D_read 3 _ rfl (by kernel_rfl) rfl rfl rfl ExtW.refl (fun hp' hx => .guarded ((decide (0 < i)) == true) rfl rfl rfl rfl fun h => v_fieldR (ov rfl) tF24_1) ?_
            refine D_read 4 _ rfl (by kernel_rfl) rfl rfl rfl ExtW.refl (fun hp' hx => .guarded ((decide (0 < i)) == true) rfl rfl rfl rfl fun h => v_loadS_r (ow rfl h) tS22 rfl) ?_
            refine D_free 5 _ rfl (by kernel_rfl) rfl rfl (fun hp' => .guarded ((decide (0 < i)) == true) rfl rfl rfl rfl fun h => v_move (ov rfl)) ?_
            obtain ⟨x2, h_x2, h⟩ := bnd h
            refine D_read 6 _ rfl (by kernel_rfl) rfl rfl rfl ExtW.refl (fun hp' hx => .guarded ((decide (0 < i)) == true) rfl rfl rfl rfl fun h => v_ixSG (ow rfl h) (ow rfl h) tL22 (gdT h_x2 h)) ?_
            refine D_read 7 _ rfl (by kernel_rfl) rfl rfl rfl ExtW.refl (fun hp' hx => .guarded ((decide (0 < i)) == true) rfl rfl rfl rfl fun h => v_fieldR (ow rfl h) tF27_0) ?_
            refine D_read 8 _ rfl (by kernel_rfl) rfl rfl rfl ExtW.refl (fun hp' hx => .guarded ((decide (0 < i)) == true) rfl rfl rfl rfl fun h => v_loadS_r (ow rfl h) tS3 rfl) ?_
            refine D_read 9 _ rfl (by kernel_rfl) rfl rfl rfl ExtW.refl (fun hp' hx => .guarded ((decide (0 < i)) == true) rfl rfl rfl rfl fun h => v_fieldR (ov rfl) tF24_1) ?_
            refine D_read 10 _ rfl (by kernel_rfl) rfl rfl rfl ExtW.refl (fun hp' hx => .guarded ((decide (0 < i)) == true) rfl rfl rfl rfl fun h => v_loadS_r (ow rfl h) tS22 rfl) ?_
            refine D_free 11 _ rfl (by kernel_rfl) rfl rfl (fun hp' => .guarded ((decide (0 < i)) == true) rfl rfl rfl rfl fun h => v_move (ov rfl)) ?_
            refine D_free 12 _ rfl (by kernel_rfl) rfl rfl (fun hp' => .guarded ((decide (0 < i)) == true) rfl rfl rfl rfl fun h => v_sub (ow rfl h) (ov rfl) rfl) ?_
            obtain ⟨x3, h_x3, h⟩ := bnd h
            refine D_read 13 _ rfl (by kernel_rfl) rfl rfl rfl ExtW.refl (fun hp' hx => .guarded ((decide (0 < i)) == true) rfl rfl rfl rfl fun h => v_ixSG (ow rfl h) (ow rfl h) tL22 (gdT h_x3 h)) ?_
            refine D_read 14 _ rfl (by kernel_rfl) rfl rfl rfl ExtW.refl (fun hp' hx => .guarded ((decide (0 < i)) == true) rfl rfl rfl rfl fun h => v_fieldR (ow rfl h) tF27_0) ?_
            refine D_read 15 _ rfl (by kernel_rfl) rfl rfl rfl ExtW.refl (fun hp' hx => .guarded ((decide (0 < i)) == true) rfl rfl rfl rfl fun h => v_loadS_r (ow rfl h) tS3 rfl) ?_
            refine D_free 16 _ rfl (by kernel_rfl) rfl rfl (fun hp' => .guarded ((decide (0 < i)) == true) rfl rfl rfl rfl fun h => v_leq (ow rfl h) (ow rfl h)) ?_
            refine D_free 17 _ rfl (by kernel_rfl) rfl rfl (fun hp' => v_and (ov rfl) (fun hp => ow rfl (gT hp))) ?_
            refine D_done (by kernel_rfl) ?_
            refine T_keep (kc 1 rfl <| kc 4 rfl <| kc 47 rfl <| kn) rfl ?_
            refine T_if h rfl (fun b47 h => ?_) (fun b47 h => ?_)
            · skip
              refine T_keep (kc 4 rfl <| kn) rfl ?_
              refine T_seq (T_reg ?_)
              refine R_q _ rfl (v_move (ov rfl)) ?_
              refine R_q _ rfl (v_assign (ov rfl)) ?_
              refine R_q _ rfl (v_assign (ov rfl)) ?_
              refine R_nil ?_
              rw [lx h] at ho1
              replace h := ho1
              obtain rfl := rt (v := (i, 10)) h
              refine T_ret (retq ?_ (.two (.tmp rfl (Dat.view (.b rfl))) (.tmp rfl (Dat.view (.b rfl)))))
              rfl
            · skip
              refine T_skip ?_
              refine T_keep (kc 1 rfl <| kc 4 rfl <| kn) rfl ?_
              refine T_reg ?_
              refine R_q _ rfl (v_move (ov rfl)) ?_
              refine R_q _ rfl (v_add (ov rfl) (ov rfl) rfl) ?_
              refine R_q _ rfl (v_assign (ov rfl)) ?_
              refine R_nil ?_
              exact ⟨(i64 (i + 1)), h, Ent.sel [] (sd 1 rfl rfl <| sd 4 rfl rfl <| sn) (.nil) rfl rfl⟩
        · skip
          refine T_exit ?_
          rw [lx h] at ho1
          replace h := ho1
          exact ⟨(), h, Ent.sel [] (sn) (.nil) rfl rfl⟩
      · skip
        replace h := elr h
        cases j
        replace h := t0i h
        refine t0T ?_
        refine T_seq (T_reg ?_)
        refine R_q _ rfl (v_assign (ov rfl)) ?_
        refine R_q _ rfl (v_assign (ov rfl)) ?_
        refine R_nil ?_
        obtain rfl := rt (v := ((-1), 0)) h
        refine T_ret (retq ?_ (.two (.tmp rfl (Dat.view (.b rfl))) (.tmp rfl (Dat.view (.b rfl)))))
        rfl

theorem ok_ref5_Check {s : api_Series} {r : Int} (h : ref5_Check s = some r) :
    CSpec Try.prog gl0 36 [.agg [.int .i64 s.Den, .sl 27 (List.map R27 s.Samples)]] (.int .i64 r) := by
  unfold ref5_Check at h
  replace h := bnd0 h
  refine spec_of (by kernel_rfl) Try.func36 rfl rfl ?_
  intro w0 A
  refine T_seq (T_reg ?_)
  refine R_q _ rfl (v_boxD (cva (ov rfl)) rfl tZ_24 rfl) ?_
  refine R_q _ rfl (v_assign (ov rfl)) ?_
  refine R_nil ?_
  refine T_keep (kc 1 rfl <| kn) rfl ?_
  refine T_seq (T_reg ?_)
  refine R_q _ rfl (v_loadA_r (ov rfl) tA24 rfl rfl) ?_
  obtain ⟨y, h_y, h⟩ := bnd h
  refine R_q _ rfl (v_call (ok_ref5_fault h_y) (.cons (ov rfl) (.aggB rfl) <| .nil)) ?_
  refine R_q _ rfl (v_move (ov rfl)) ?_
  refine R_q _ rfl (v_extract (ov rfl) rfl) ?_
  refine R_q _ rfl (v_extract (ov rfl) rfl) ?_
  refine R_q _ rfl (v_assign (ov rfl)) ?_
  refine R_q _ rfl (v_assign (ov rfl)) ?_
  refine R_nil ?_
  refine T_keep (kc 4 rfl <| kn) rfl ?_
  refine T_seq (T_reg ?_)
  refine R_q _ rfl (v_move (ov rfl)) ?_
  refine R_q _ rfl (v_assign (ov rfl)) ?_
  refine R_nil ?_
  obtain rfl := rt (v := y.2) h
  refine T_ret (retq ?_ (.one (.tmp rfl (Dat.view (.b rfl)))))
  rfl

theorem ok_ref5_solid {mark : Int} {r : Bool} (h : ref5_solid mark = some r) :
    CSpec Try.prog gl0 48 [.int .i64 mark] (.bool r) := by
  unfold ref5_solid at h
  replace h := bnd0 h
  refine spec_of (by kernel_rfl) Try.func48 rfl rfl ?_
  intro w0 A
  refine T_seq (T_reg ?_)
  refine R_q _ rfl (v_assign (ov rfl)) ?_
  refine R_nil ?_
  refine T_seq (T_reg ?_)
  refine R_q _ rfl (v_move (ov rfl)) ?_
  refine R_q _ rfl (v_geq (ov rfl) (ov rfl)) ?_
  refine R_q _ rfl (v_assign (ov rfl)) ?_
  refine R_nil ?_
  obtain rfl := rt (v := (decide (3 ≤ mark))) h
  refine T_ret (retq ?_ (.one (.tmp rfl (Dat.view (.b rfl)))))
  rfl

theorem ok_ref5_Held {s : api_Series} {at_ : Int} {long : Int} {r : api_Sample × Bool} (h : ref5_Held s at_ long = some r) :
    CSpec Try.prog gl0 37 [.agg [.int .i64 s.Den, .sl 27 (List.map R27 s.Samples)], .int .i64 at_, .int .i64 long] (.tuple [.agg [.int .i64 r.1.At, .int .i64 r.1.N, .int .i64 r.1.Mark], .bool r.2]) := by
  unfold ref5_Held at h
  replace h := bnd0 h
  refine spec_of (by kernel_rfl) Try.func37 rfl rfl ?_
  intro w0 A
  refine T_seq (T_reg ?_)
  refine R_q _ rfl (v_boxD (cva (ov rfl)) rfl tZ_24 rfl) ?_
  refine R_w _ _ rfl (w_alloc (row := [_, _, _]) 0 rfl tZ27 rfl tZ_27) ?_
  refine R_q _ rfl (v_assign (ov rfl)) ?_
  refine R_nil ?_
  refine T_keep (kc 1 rfl <| kc 2 rfl <| kc 3 rfl <| kc 6 rfl <| kn) rfl ?_
  refine T_seq (T_draw (cw := md0) (by kernel_rfl) ?_)
  refine D_read 0 _ rfl (by kernel_rfl) rfl rfl rfl ExtW.refl (fun hp' hx => v_fieldR (ov rfl) tF24_1) ?_
  refine D_read 1 _ rfl (by kernel_rfl) rfl rfl rfl ExtW.refl (fun hp' hx => v_loadS_r (ov rfl) tS22 rfl) ?_
  refine D_read 2 _ rfl (by kernel_rfl) rfl rfl rfl ExtW.refl (fun hp' hx => v_len (slv_sl (ov rfl) tZ_27) tL22 (len_map _ _)) ?_
  refine D_free 3 _ rfl (by kernel_rfl) rfl rfl (fun hp' => v_assign (ov rfl)) ?_
  refine D_free 4 _ rfl (by kernel_rfl) rfl rfl (fun hp' => v_assign (ov rfl)) ?_
  refine D_done (by kernel_rfl) ?_
  refine T_joinG id (t1 fun low => ⟨[(1, .int .i64 at_), (2, .int .i64 long), (3, .rp [.int .i64 s.Den, .sl 27 (List.map R27 s.Samples)] 0), (6, .ptr 0 1 0 0), (8, .int .i64 low)], [some ⟨27, [[.int .i64 0, .int .i64 0, .int .i64 0]]⟩]⟩) h (fun h => ?_) (fun j h => ?_)
  · skip
    refine T_block ?_
    obtain ⟨r1, hl1, ho1⟩ := bndL h
    refine T_loopG _ (t2 fun low2 high => ⟨[(1, .int .i64 at_), (2, .int .i64 long), (3, .rp [.int .i64 s.Den, .sl 27 (List.map R27 s.Samples)] 0), (6, .ptr 0 1 0 0), (8, .int .i64 low2), (9, .int .i64 high)], [some ⟨27, [[.int .i64 0, .int .i64 0, .int .i64 0]]⟩]⟩) _ hl1 (Ent.sel [some 0] (sd 1 rfl rfl <| sd 2 rfl rfl <| sd 3 rfl rfl <| sr 6 rfl (.ptr _ _ _ rfl) <| sd 8 rfl rfl <| sd 9 rfl rfl <| sn) (.cons rfl (ro1 (by exact tZ_27.symm) (rld rfl)) <| .nil) rfl rfl) (fun n1 s1 h => ?_)
    obtain ⟨low2, high⟩ := s1
    replace h := t2i h
    refine t2T ?_
    unfold ref5_Held_L1 at h
    refine T_seq ?_
    refine T_seq (T_reg ?_)
    refine R_q _ rfl (v_move (ov rfl)) ?_
    refine R_q _ rfl (v_move (ov rfl)) ?_
    refine R_q _ rfl (v_lss (ov rfl) (ov rfl)) ?_
    refine R_nil ?_
    refine T_keep (kc 1 rfl <| kc 2 rfl <| kc 3 rfl <| kc 6 rfl <| kc 8 rfl <| kc 9 rfl <| kc 17 rfl <| kn) rfl ?_
    refine T_if h rfl (fun b17 h => ?_) (fun b17 h => ?_)
    · skip
      refine T_skip ?_
      refine T_block ?_
      refine T_keep (kc 1 rfl <| kc 2 rfl <| kc 3 rfl <| kc 6 rfl <| kc 8 rfl <| kc 9 rfl <| kn) rfl ?_
      refine T_seq (T_reg ?_)
      refine R_q _ rfl (v_move (ov rfl)) ?_
      refine R_q _ rfl (v_move (ov rfl)) ?_
      refine R_q _ rfl (v_add (ov rfl) (ov rfl) rfl) ?_
      obtain ⟨q, h_q, h⟩ := bnd h
      refine R_q _ rfl (v_quoG (ov rfl) (ov rfl) h_q) ?_
      refine R_q _ rfl (v_assign (ov rfl)) ?_
      refine R_nil ?_
      refine T_keep (kc 1 rfl <| kc 2 rfl <| kc 3 rfl <| kc 6 rfl <| kc 8 rfl <| kc 9 rfl <| kc 10 rfl <| kn) rfl ?_
      refine T_seq (T_reg ?_)
      refine R_q _ rfl (v_fieldR (ov rfl) tF24_1) ?_
      refine R_q _ rfl (v_loadS_r (ov rfl) tS22 rfl) ?_
      refine R_q _ rfl (v_move (ov rfl)) ?_
      obtain ⟨x, h_x, h⟩ := bnd h
      refine R_q _ rfl (v_ixSG (ov rfl) (ov rfl) tL22 h_x) ?_
      refine R_q _ rfl (v_fieldR (ov rfl) tF27_0) ?_
      refine R_q _ rfl (v_loadS_r (ov rfl) tS3 rfl) ?_
      refine R_q _ rfl (v_move (ov rfl)) ?_
      refine R_q _ rfl (v_leq (ov rfl) (ov rfl)) ?_
      refine R_nil ?_
      refine T_keep (kc 1 rfl <| kc 2 rfl <| kc 3 rfl <| kc 6 rfl <| kc 8 rfl <| kc 9 rfl <| kc 10 rfl <| kc 29 rfl <| kn) rfl ?_
      refine T_if h rfl (fun b29 h => ?_) (fun b29 h => ?_)
      · skip
        refine T_keep (kc 1 rfl <| kc 2 rfl <| kc 3 rfl <| kc 6 rfl <| kc 8 rfl <| kc 9 rfl <| kc 10 rfl <| kn) rfl ?_
        refine T_reg ?_
        refine R_q _ rfl (v_move (ov rfl)) ?_
        refine R_q _ rfl (v_add (ov rfl) (ov rfl) rfl) ?_
        refine R_q _ rfl (v_assign (ov rfl)) ?_
        refine R_nil ?_
        exact ⟨((i64 (q + 1)), high), h, Ent.sel [some 0] (sd 1 rfl rfl <| sd 2 rfl rfl <| sd 3 rfl rfl <| sr 6 rfl (.ptr _ _ _ rfl) <| sd 8 rfl rfl <| sd 9 rfl rfl <| sn) (.cons rfl (ro1 (by exact tZ_27.symm) (rld rfl)) <| .nil) rfl rfl⟩
      · skip
        refine T_keep (kc 1 rfl <| kc 2 rfl <| kc 3 rfl <| kc 6 rfl <| kc 8 rfl <| kc 9 rfl <| kc 10 rfl <| kn) rfl ?_
        refine T_reg ?_
        refine R_q _ rfl (v_move (ov rfl)) ?_
        refine R_q _ rfl (v_assign (ov rfl)) ?_
        refine R_nil ?_
        exact ⟨(low2, q), h, Ent.sel [some 0] (sd 1 rfl rfl <| sd 2 rfl rfl <| sd 3 rfl rfl <| sr 6 rfl (.ptr _ _ _ rfl) <| sd 8 rfl rfl <| sd 9 rfl rfl <| sn) (.cons rfl (ro1 (by exact tZ_27.symm) (rld rfl)) <| .nil) rfl rfl⟩
    · skip
      refine T_exit ?_
      rw [lx h] at ho1
      replace h := ho1
      exact ⟨low2, h, Ent.sel [some 0] (sd 1 rfl rfl <| sd 2 rfl rfl <| sd 3 rfl rfl <| sr 6 rfl (.ptr _ _ _ rfl) <| sd 8 rfl rfl <| sn) (.cons rfl (ro1 (by exact tZ_27.symm) (rld rfl)) <| .nil) rfl rfl⟩
  · skip
    obtain ⟨low, rfl⟩ : ∃ x, x = j := ⟨_, rfl⟩
    replace h := t1i h
    refine t1T ?_
    refine T_seq ?_
    refine T_seq (T_reg ?_)
    refine R_q _ rfl (v_move (ov rfl)) ?_
    refine R_q _ rfl (v_eql (ov rfl) (ov rfl)) ?_
    refine R_nil ?_
    refine T_keep (kc 1 rfl <| kc 2 rfl <| kc 3 rfl <| kc 6 rfl <| kc 8 rfl <| kc 34 rfl <| kn) rfl ?_
    refine T_if h rfl (fun b34 h => ?_) (fun b34 h => ?_)
    · skip
      refine T_keep (kc 6 rfl <| kn) rfl ?_
      refine T_seq (T_reg ?_)
      refine R_q _ rfl (v_build (ys := [_, _, _]) tPL27 tHA27 tZ27 (.nil) rfl) ?_
      refine R_w _ _ rfl (w_store (ov rfl) (ov rfl) (cells_agg tA27 rfl) rfl rfl rfl (Nat.le_of_ble_eq_true rfl) (cell1_all rfl) rfl) ?_
      refine R_q _ rfl (v_assign (ov rfl)) ?_
      refine R_nil ?_
      obtain rfl := rt (v := ((api_Sample.mk 0 0 0), false)) h
      refine T_ret (retq ?_ (.two (.agg rfl rfl rfl rfl tA27 rfl rfl (pwB rfl)) (.tmp rfl (Dat.view (.b rfl)))))
      rfl
    · skip
      refine T_skip ?_
      refine T_keep (kc 1 rfl <| kc 2 rfl <| kc 3 rfl <| kc 6 rfl <| kc 8 rfl <| kn) rfl ?_
      refine T_seq (T_reg ?_)
      refine R_q _ rfl (v_fieldR (ov rfl) tF24_1) ?_
      refine R_q _ rfl (v_loadS_r (ov rfl) tS22 rfl) ?_
      refine R_q _ rfl (v_move (ov rfl)) ?_
      refine R_q _ rfl (v_sub (ov rfl) (ov rfl) rfl) ?_
      obtain ⟨x2, h_x2, h⟩ := bnd h
      refine R_q _ rfl (v_ixSG (ov rfl) (ov rfl) tL22 h_x2) ?_
      refine R_q _ rfl (v_loadA_r (ov rfl) tA27 rfl rfl) ?_
      refine R_w _ _ rfl (w_alloc (row := [_, _, _]) 1 rfl tZ27 rfl tZ_27) ?_
      refine R_w _ _ rfl (w_store (ov rfl) (ov rfl) (cells_agg tA27 rfl) rfl rfl rfl (Nat.le_of_ble_eq_true rfl) (cell1_all rfl) rfl) ?_
      refine R_nil ?_
      refine T_seq ?_
      refine T_keep (kc 1 rfl <| kc 2 rfl <| kc 6 rfl <| kc 11 rfl <| kn) rfl ?_
      refine T_seq (T_reg ?_)
      refine R_q _ rfl (v_fieldP (ov rfl) rfl rfl tF27_2) ?_
      refine R_q _ rfl (v_loadS (ov rfl) rfl rfl rfl tS3 rfl) ?_
      obtain ⟨y, h_y, h⟩ := bnd h
      refine R_q _ rfl (v_call (ok_ref5_solid h_y) (.cons (ov rfl) (.b rfl) <| .nil)) ?_
      refine R_q _ rfl (v_not (ov rfl)) ?_
      refine R_q _ rfl (v_move (ov rfl)) ?_
      refine R_q _ rfl (.guarded ((!y) == false) rfl rfl rfl rfl fun h => v_move (ov rfl)) ?_
      refine R_q _ rfl (.guarded ((!y) == false) rfl rfl rfl rfl fun h => v_fieldP (ov rfl) rfl rfl tF27_0) ?_
      refine R_q _ rfl (.guarded ((!y) == false) rfl rfl rfl rfl fun h => v_loadS (ow rfl h) rfl rfl rfl tS3 rfl) ?_
      refine R_q _ rfl (.guarded ((!y) == false) rfl rfl rfl rfl fun h => v_sub (ow rfl h) (ow rfl h) rfl) ?_
      refine R_q _ rfl (.guarded ((!y) == false) rfl rfl rfl rfl fun h => v_move (ov rfl)) ?_
      refine R_q _ rfl (.guarded ((!y) == false) rfl rfl rfl rfl fun h => v_gtr (ow rfl h) (ow rfl h)) ?_
      refine R_q _ rfl (v_or (ov rfl) (fun hp => ow rfl (gF hp))) ?_
      refine R_nil ?_
      refine T_keep (kc 6 rfl <| kc 11 rfl <| kc 53 rfl <| kn) rfl ?_
      refine T_if h rfl (fun b53 h => ?_) (fun b53 h => ?_)
      · skip
        refine T_keep (kc 6 rfl <| kn) rfl ?_
        refine T_seq (T_reg ?_)
        refine R_q _ rfl (v_build (ys := [_, _, _]) tPL27 tHA27 tZ27 (.nil) rfl) ?_
        refine R_w _ _ rfl (w_store (ov rfl) (ov rfl) (cells_agg tA27 rfl) rfl rfl rfl (Nat.le_of_ble_eq_true rfl) (cell1_all rfl) rfl) ?_
        refine R_q _ rfl (v_assign (ov rfl)) ?_
        refine R_nil ?_
        obtain rfl := rt (v := ((api_Sample.mk 0 0 0), false)) h
        refine T_ret (retq ?_ (.two (.agg rfl rfl rfl rfl tA27 rfl rfl (pwB rfl)) (.tmp rfl (Dat.view (.b rfl)))))
        rfl
      · skip
        refine T_skip ?_
        refine T_keep (kc 6 rfl <| kc 11 rfl <| kn) rfl ?_
        refine T_seq (T_reg ?_)
        refine R_q _ rfl (v_loadA (ov rfl) rfl rfl rfl tA27 rfl rfl) ?_
        refine R_w _ _ rfl (w_store (ov rfl) (ov rfl) (cells_agg tA27 rfl) rfl rfl rfl (Nat.le_of_ble_eq_true rfl) (cell1_all rfl) rfl) ?_
        refine R_q _ rfl (v_assign (ov rfl)) ?_
        refine R_nil ?_
        obtain rfl := rt (v := (x2, true)) h
        refine T_ret (retq ?_ (.two (.agg rfl rfl rfl rfl tA27 rfl rfl (pwB rfl)) (.tmp rfl (Dat.view (.b rfl)))))
        rfl

theorem ok_ref5_Hold {s : api_Series} {at_ : Int} {long : Int} {r : api_Sample × Bool × Int} (h : ref5_Hold s at_ long = some r) :
    CSpec Try.prog gl0 18 [.agg [.int .i64 s.Den, .sl 27 (List.map R27 s.Samples)], .int .i64 at_, .int .i64 long] (.tuple [.agg [.int .i64 r.1.At, .int .i64 r.1.N, .int .i64 r.1.Mark], .bool r.2.1, .int .i64 r.2.2]) := by
  unfold ref5_Hold at h
  replace h := bnd0 h
  refine spec_of (by kernel_rfl) Try.func18 rfl rfl ?_
  intro w0 A
  refine T_seq (T_reg ?_)
  refine R_q _ rfl (v_boxD (cva (ov rfl)) rfl tZ_24 rfl) ?_
  refine R_w _ _ rfl (w_alloc (row := [_, _, _]) 0 rfl tZ27 rfl tZ_27) ?_
  refine R_q _ rfl (v_assign (ov rfl)) ?_
  refine R_q _ rfl (v_assign (ov rfl)) ?_
  refine R_nil ?_
  refine T_seq ?_
  refine T_keep (kc 1 rfl <| kc 2 rfl <| kc 3 rfl <| kc 6 rfl <| kn) rfl ?_
  refine T_seq (T_reg ?_)
  refine R_q _ rfl (v_loadA_r (ov rfl) tA24 rfl rfl) ?_
  obtain ⟨y, h_y, h⟩ := bnd h
  refine R_q _ rfl (v_call (ok_ref5_Check h_y) (.cons (ov rfl) (.aggB rfl) <| .nil)) ?_
  refine R_q _ rfl (v_assign (ov rfl)) ?_
  refine R_nil ?_
  refine T_keep (kc 1 rfl <| kc 2 rfl <| kc 3 rfl <| kc 6 rfl <| kc 9 rfl <| kn) rfl ?_
  refine T_seq (T_reg ?_)
  refine R_q _ rfl (v_move (ov rfl)) ?_
  refine R_q _ rfl (v_neq (ov rfl) (ov rfl)) ?_
  refine R_nil ?_
  refine T_keep (kc 1 rfl <| kc 2 rfl <| kc 3 rfl <| kc 6 rfl <| kc 9 rfl <| kc 15 rfl <| kn) rfl ?_
  refine T_if h rfl (fun b15 h => ?_) (fun b15 h => ?_)
  · skip
    refine T_keep (kc 6 rfl <| kc 9 rfl <| kn) rfl ?_
    refine T_seq (T_reg ?_)
    refine R_q _ rfl (v_build (ys := [_, _, _]) tPL27 tHA27 tZ27 (.nil) rfl) ?_
    refine R_q _ rfl (v_move (ov rfl)) ?_
    refine R_w _ _ rfl (w_store (ov rfl) (ov rfl) (cells_agg tA27 rfl) rfl rfl rfl (Nat.le_of_ble_eq_true rfl) (cell1_all rfl) rfl) ?_
    refine R_q _ rfl (v_assign (ov rfl)) ?_
    refine R_q _ rfl (v_assign (ov rfl)) ?_
    refine R_nil ?_
    obtain rfl := rt (v := ((api_Sample.mk 0 0 0), false, y)) h
    refine T_ret (retq ?_ (.three (.agg rfl rfl rfl rfl tA27 rfl rfl (pwB rfl)) (.tmp rfl (Dat.view (.b rfl))) (.tmp rfl (Dat.view (.b rfl)))))
    rfl
  · skip
    refine T_skip ?_
    refine T_seq ?_
    refine T_keep (kc 1 rfl <| kc 2 rfl <| kc 3 rfl <| kc 6 rfl <| kn) rfl ?_
    refine T_seq (T_reg ?_)
    refine R_q _ rfl (v_move (ov rfl)) ?_
    obtain ⟨y2, h_y2, h⟩ := bnd h
    refine R_q _ rfl (v_call (ok_ref5_outside h_y2) (.cons (ov rfl) (.b rfl) <| .cons (ov rfl) (.b rfl) <| .cons (ov rfl) (.b rfl) <| .nil)) ?_
    refine R_q _ rfl (v_move (ov rfl)) ?_
    refine R_q _ rfl (.guarded (y2 == false) rfl rfl rfl rfl fun h => v_move (ov rfl)) ?_
    obtain ⟨y3, h_y3, h⟩ := bnd h
    refine R_q _ rfl (.guarded (y2 == false) rfl rfl rfl rfl fun h => v_call (ok_ref5_outside (gdT h_y3 h)) (.cons (ow rfl h) (.b rfl) <| .cons (ov rfl) (.b rfl) <| .cons (ov rfl) (.b rfl) <| .nil)) ?_
    refine R_q _ rfl (v_or (ov rfl) (fun hp => ow rfl (gF hp))) ?_
    refine R_nil ?_
    refine T_keep (kc 1 rfl <| kc 2 rfl <| kc 3 rfl <| kc 6 rfl <| kc 23 rfl <| kn) rfl ?_
    refine T_if h rfl (fun b23 h => ?_) (fun b23 h => ?_)
    · skip
      refine T_keep (kc 6 rfl <| kn) rfl ?_
      refine T_seq (T_reg ?_)
      refine R_q _ rfl (v_build (ys := [_, _, _]) tPL27 tHA27 tZ27 (.nil) rfl) ?_
      refine R_w _ _ rfl (w_store (ov rfl) (ov rfl) (cells_agg tA27 rfl) rfl rfl rfl (Nat.le_of_ble_eq_true rfl) (cell1_all rfl) rfl) ?_
      refine R_q _ rfl (v_assign (ov rfl)) ?_
      refine R_q _ rfl (v_assign (ov rfl)) ?_
      refine R_nil ?_
      obtain rfl := rt (v := ((api_Sample.mk 0 0 0), false, 9)) h
      refine T_ret (retq ?_ (.three (.agg rfl rfl rfl rfl tA27 rfl rfl (pwB rfl)) (.tmp rfl (Dat.view (.b rfl))) (.tmp rfl (Dat.view (.b rfl)))))
      rfl
    · skip
      refine T_skip ?_
      refine T_keep (kc 1 rfl <| kc 2 rfl <| kc 3 rfl <| kc 6 rfl <| kn) rfl ?_
      refine T_seq (T_reg ?_)
      refine R_q _ rfl (v_loadA_r (ov rfl) tA24 rfl rfl) ?_
      refine R_q _ rfl (v_move (ov rfl)) ?_
      refine R_q _ rfl (v_move (ov rfl)) ?_
      obtain ⟨y4, h_y4, h⟩ := bnd h
      refine R_q _ rfl (v_call (ok_ref5_Held h_y4) (.cons (ov rfl) (.aggB rfl) <| .cons (ov rfl) (.b rfl) <| .cons (ov rfl) (.b rfl) <| .nil)) ?_
      refine R_q _ rfl (v_move (ov rfl)) ?_
      refine R_q _ rfl (v_extract (ov rfl) rfl) ?_
      refine R_q _ rfl (v_extract (ov rfl) rfl) ?_
      refine R_w _ _ rfl (w_alloc (row := [_, _, _]) 1 rfl tZ27 rfl tZ_27) ?_
      refine R_w _ _ rfl (w_store (ov rfl) (ov rfl) (cells_agg tA27 rfl) rfl rfl rfl (Nat.le_of_ble_eq_true rfl) (cell1_all rfl) rfl) ?_
      refine R_q _ rfl (v_assign (ov rfl)) ?_
      refine R_nil ?_
      refine T_keep (kc 6 rfl <| kc 10 rfl <| kc 11 rfl <| kn) rfl ?_
      refine T_seq (T_reg ?_)
      refine R_q _ rfl (v_loadA (ov rfl) rfl rfl rfl tA27 rfl rfl) ?_
      refine R_q _ rfl (v_move (ov rfl)) ?_
      refine R_w _ _ rfl (w_store (ov rfl) (ov rfl) (cells_agg tA27 rfl) rfl rfl rfl (Nat.le_of_ble_eq_true rfl) (cell1_all rfl) rfl) ?_
      refine R_q _ rfl (v_assign (ov rfl)) ?_
      refine R_q _ rfl (v_assign (ov rfl)) ?_
      refine R_nil ?_
      obtain rfl := rt (v := (y4.1, y4.2, 0)) h
      refine T_ret (retq ?_ (.three (.agg rfl rfl rfl rfl tA27 rfl rfl (pwB rfl)) (.tmp rfl (Dat.view (.b rfl))) (.tmp rfl (Dat.view (.b rfl)))))
      rfl

theorem ok_series_solids {s : api_Series} {r : (List Int)} (h : series_solids s = some r) :
    CSpec Try.prog gl0 38 [.agg [.int .i64 s.Den, .sl 27 (List.map R27 s.Samples)]] (.sl 3 (List.map R3 r)) := by
  unfold series_solids at h
  replace h := bnd0 h
  refine spec_of (by kernel_rfl) Try.func38 rfl rfl ?_
  intro w0 A
  refine T_seq (T_reg ?_)
  refine R_q _ rfl (v_boxD (cva (ov rfl)) rfl tZ_24 rfl) ?_
  refine R_q _ rfl (v_assign (ov rfl)) ?_
  refine R_nil ?_
  refine T_keep (kc 1 rfl <| kn) rfl ?_
  refine T_seq (T_reg ?_)
  refine R_q _ rfl (v_assign (ov rfl)) ?_
  refine R_nil ?_
  refine T_joinG id (t1 fun out => ⟨[(3, .own 0 out.length)], [some ⟨3, List.map R3 out⟩]⟩) h (fun h => ?_) (fun j h => ?_)
  · skip
    refine T_seq (T_reg ?_)
    refine R_q _ rfl (v_fieldR (ov rfl) tF24_1) ?_
    refine R_q _ rfl (v_loadS_r (ov rfl) tS22 rfl) ?_
    refine R_q _ rfl (v_len (slv_sl (ov rfl) tZ_27) tL22 (len_map _ _)) ?_
    refine R_q _ rfl (v_move (ov rfl)) ?_
    refine R_nil ?_
    refine T_block ?_
    obtain ⟨r1, hl1, ho1⟩ := bndL h
    refine T_loopG _ (t2 fun out2 i => ⟨[(3, .own 0 out2.length), (7, .sl 27 (List.map R27 s.Samples)), (8, .int .i64 (s.Samples.length : Int)), (9, .int .i64 i)], [some ⟨3, List.map R3 out2⟩]⟩) _ hl1 (Ent.sel [none] (sr 3 rfl (.row rfl) <| sd 7 rfl rfl <| sd 8 rfl rfl <| sd 9 rfl rfl <| sn) (.row 3 <| .nil) rfl rfl) (fun n1 s1 h => ?_)
    obtain ⟨out2, i⟩ := s1
    replace h := t2i h
    refine t2T ?_
    unfold series_solids_L1 at h
    refine T_seq (T_reg ?_)
    refine R_q _ rfl (v_lss (ov rfl) (ov rfl)) ?_
    refine R_nil ?_
    refine T_seq ?_
    refine T_if h rfl (fun b10 h => ?_) (fun b10 h => ?_)
    · skip
      refine T_skip ?_
      refine T_seq ?_
      refine T_block ?_
      refine T_keep (kc 3 rfl <| kc 7 rfl <| kc 8 rfl <| kc 9 rfl <| kn) rfl ?_
      refine T_seq (T_reg ?_)
      refine R_q _ rfl (v_move (ov rfl)) ?_
      obtain ⟨x, h_x, h⟩ := bnd h
      refine R_q _ rfl (v_ixSG (ov rfl) (ov rfl) tL22 h_x) ?_
      refine R_q _ rfl (v_loadA_r (ov rfl) tA27 rfl rfl) ?_
      refine R_w _ _ rfl (w_alloc (row := [_, _, _]) 1 rfl tZ27 rfl tZ_27) ?_
      refine R_q _ rfl (v_assign (ov rfl)) ?_
      refine R_w _ _ rfl (w_store (ov rfl) (ov rfl) (cells_agg tA27 rfl) rfl rfl rfl (Nat.le_of_ble_eq_true rfl) (cell1_all rfl) rfl) ?_
      refine R_nil ?_
      refine T_keep (kc 3 rfl <| kc 4 rfl <| kc 5 rfl <| kc 7 rfl <| kc 8 rfl <| kc 9 rfl <| kn) rfl ?_
      refine T_seq (T_reg ?_)
      refine R_q _ rfl (v_loadA (ov rfl) rfl rfl rfl tA27 rfl rfl) ?_
      obtain ⟨y, h_y, h⟩ := bnd h
      refine R_q _ rfl (v_call (ok_series_solid h_y) (.cons (ov rfl) (.aggB rfl) <| .nil)) ?_
      refine R_nil ?_
      refine T_keep (kc 3 rfl <| kc 4 rfl <| kc 7 rfl <| kc 8 rfl <| kc 9 rfl <| kc 15 rfl <| kn) rfl ?_
      refine T_if h rfl (fun b15 h => ?_) (fun b15 h => ?_)
      · skip
        refine T_keep (kc 3 rfl <| kc 4 rfl <| kc 7 rfl <| kc 8 rfl <| kc 9 rfl <| kn) rfl ?_
        refine T_reg ?_
        refine R_q _ rfl (v_move (ov rfl)) ?_
        refine R_q _ rfl (v_move (ov rfl)) ?_
        refine R_q (.sl 3 (List.map R3 ([i] : List Int))) rfl (v_lit tL25 (.cons (cvs (ov rfl) (cell1_b rfl)) rfl (.cons (.b rfl) .nil) <| .nil) rfl rfl) ?_
        obtain ⟨l, h_l, h⟩ := bnd h
        refine R_w _ _ rfl (w_appendG (ov rfl) (slv_sl (ov rfl) tZ_3) tL25 rfl rfl rfl (fun _ => cell1_all rfl) rfl h_l) ?_
        refine R_q _ rfl (v_assign (ov rfl)) ?_
        refine R_nil ?_
        refine T_keep (kc 3 rfl <| kc 7 rfl <| kc 8 rfl <| kc 9 rfl <| kn) rfl ?_
        refine T_reg ?_
        refine R_q _ rfl (v_add (ov rfl) (ov rfl) rfl) ?_
        refine R_q _ rfl (v_move (ov rfl)) ?_
        refine R_nil ?_
        exact ⟨(l, (i64 (i + 1))), h, Ent.sel [some 0] (sr 3 rfl (.own _ rfl) <| sd 7 rfl rfl <| sd 8 rfl rfl <| sd 9 rfl rfl <| sn) (.cons rfl (roM D3) <| .nil) rfl rfl⟩
      · skip
        refine T_skip ?_
        refine T_keep (kc 3 rfl <| kc 7 rfl <| kc 8 rfl <| kc 9 rfl <| kn) rfl ?_
        refine T_reg ?_
        refine R_q _ rfl (v_add (ov rfl) (ov rfl) rfl) ?_
        refine R_q _ rfl (v_move (ov rfl)) ?_
        refine R_nil ?_
        exact ⟨(out2, (i64 (i + 1))), h, Ent.sel [some 0] (sr 3 rfl (.own _ rfl) <| sd 7 rfl rfl <| sd 8 rfl rfl <| sd 9 rfl rfl <| sn) (.cons rfl (roM D3) <| .nil) rfl rfl⟩
    · skip
      refine T_exit ?_
      rw [lx h] at ho1
      replace h := ho1
      exact ⟨out2, h, Ent.sel [some 0] (sr 3 rfl (.own _ rfl) <| sn) (.cons rfl (roM D3) <| .nil) rfl rfl⟩
  · skip
    obtain ⟨out, rfl⟩ : ∃ x, x = j := ⟨_, rfl⟩
    replace h := t1i h
    refine t1T ?_
    refine T_seq (T_reg ?_)
    refine R_q _ rfl (v_move (ov rfl)) ?_
    refine R_q _ rfl (v_assign (ov rfl)) ?_
    refine R_nil ?_
    obtain rfl := rt (v := out) h
    refine T_ret (retq ?_ (.one (.tmp rfl (View.ownM rfl rfl D3))))
    rfl

theorem ok_slices_BinarySearchFunc_int_int_int {x : List Int} {target : Int} {cmp : Int → Int → Option Int} {r : Int × Bool} {cmp_f : FuncId} {cmp_c : List AV} (cmp_d : cmp_c.all datB = true) (cmp_h : ∀ (z0 : Int) (z1 : Int) z, cmp z0 z1 = some z → CSpec Try.prog gl0 cmp_f ([.int .i64 z0, .int .i64 z1] ++ cmp_c) (.int .i64 z)) (h : slices_BinarySearchFunc_int_int_int x target cmp = some r) :
    CSpec Try.prog gl0 39 [.sl 3 (List.map R3 x), .int .i64 target, .fn cmp_f cmp_c] (.tuple [.int .i64 r.1, .bool r.2]) := by
  unfold slices_BinarySearchFunc_int_int_int at h
  replace h := bnd0 h
  refine spec_of (by kernel_rfl) Try.func39 rfl rfl ?_
  intro w0 A
  refine T_seq (T_reg ?_)
  refine R_q _ rfl (v_assign (ov rfl)) ?_
  refine R_q _ rfl (v_assign (ov rfl)) ?_
  refine R_nil ?_
  refine T_keep (kc 0 rfl <| kc 1 rfl <| kc 2 rfl <| kn) rfl ?_
  refine T_seq (T_reg ?_)
  refine R_q _ rfl (v_move (ov rfl)) ?_
  refine R_q _ rfl (v_len (slv_sl (ov rfl) tZ_3) tL25 (len_map _ _)) ?_
  refine R_q _ rfl (v_assign (ov rfl)) ?_
  refine R_nil ?_
  refine T_keep (kc 0 rfl <| kc 1 rfl <| kc 2 rfl <| kc 8 rfl <| kn) rfl ?_
  refine T_seq (T_reg ?_)
  refine R_q _ rfl (v_move (ov rfl)) ?_
  refine R_q _ rfl (v_assign (ov rfl)) ?_
  refine R_q _ rfl (v_assign (ov rfl)) ?_
  refine R_nil ?_
  refine T_joinG id (t1 fun i => ⟨[(0, .sl 3 (List.map R3 x)), (1, .int .i64 target), (2, .fn cmp_f cmp_c), (8, .int .i64 (x.length : Int)), (9, .int .i64 i)], []⟩) h (fun h => ?_) (fun j h => ?_)
  · skip
    refine T_block ?_
    obtain ⟨r1, hl1, ho1⟩ := bndL h
    refine T_loopG _ (t2 fun i2 j => ⟨[(0, .sl 3 (List.map R3 x)), (1, .int .i64 target), (2, .fn cmp_f cmp_c), (8, .int .i64 (x.length : Int)), (9, .int .i64 i2), (10, .int .i64 j)], []⟩) _ hl1 (Ent.sel [] (sd 0 rfl rfl <| sd 1 rfl rfl <| sr 2 rfl (rFn (rld cmp_d)) <| sd 8 rfl rfl <| sd 9 rfl rfl <| sd 10 rfl rfl <| sn) (.nil) rfl rfl) (fun n1 s1 h => ?_)
    obtain ⟨i2, j⟩ := s1
    replace h := t2i h
    refine t2T ?_
    unfold slices_BinarySearchFunc_int_int_int_L1 at h
    refine T_seq ?_
    refine T_seq (T_reg ?_)
    refine R_q _ rfl (v_move (ov rfl)) ?_
    refine R_q _ rfl (v_move (ov rfl)) ?_
    refine R_q _ rfl (v_lss (ov rfl) (ov rfl)) ?_
    refine R_nil ?_
    refine T_keep (kc 0 rfl <| kc 1 rfl <| kc 2 rfl <| kc 8 rfl <| kc 9 rfl <| kc 10 rfl <| kc 17 rfl <| kn) rfl ?_
    refine T_if h rfl (fun b17 h => ?_) (fun b17 h => ?_)
    · skip
      refine T_skip ?_
      refine T_block ?_
      refine T_keep (kc 0 rfl <| kc 1 rfl <| kc 2 rfl <| kc 8 rfl <| kc 9 rfl <| kc 10 rfl <| kn) rfl ?_
      refine T_seq (T_reg ?_)
      refine R_q _ rfl (v_move (ov rfl)) ?_
      refine R_q _ rfl (v_move (ov rfl)) ?_
      refine R_q _ rfl (v_add (ov rfl) (ov rfl) rfl) ?_
      refine R_q _ rfl (v_conv (ov rfl) tI3 tI89 rfl) ?_
      obtain ⟨q, h_q, h⟩ := bnd h
      refine R_q _ rfl (v_shrG (ov rfl) (ov rfl) h_q) ?_
      refine R_q _ rfl (v_conv (ov rfl) tI89 tI3 rfl) ?_
      refine R_q _ rfl (v_assign (ov rfl)) ?_
      refine R_nil ?_
      refine T_keep (kc 0 rfl <| kc 1 rfl <| kc 2 rfl <| kc 8 rfl <| kc 9 rfl <| kc 10 rfl <| kc 11 rfl <| kn) rfl ?_
      refine T_seq (T_reg ?_)
      refine R_q _ rfl (v_move (ov rfl)) ?_
      refine R_q _ rfl (v_move (ov rfl)) ?_
      refine R_q _ rfl (v_move (ov rfl)) ?_
      obtain ⟨x2, h_x2, h⟩ := bnd h
      refine R_q _ rfl (v_ixSG (ov rfl) (ov rfl) tL25 h_x2) ?_
      refine R_q _ rfl (v_loadS_r (ov rfl) tS3 rfl) ?_
      refine R_q _ rfl (v_move (ov rfl)) ?_
      obtain ⟨y, h_y, h⟩ := bnd h
      refine R_q _ rfl (v_callC (ov rfl) cmp_d (cmp_h _ _ _ h_y) (.cons (ov rfl) (.b rfl) <| .cons (ov rfl) (.b rfl) <| .nil)) ?_
      refine R_q _ rfl (v_lss (ov rfl) (ov rfl)) ?_
      refine R_nil ?_
      refine T_keep (kc 0 rfl <| kc 1 rfl <| kc 2 rfl <| kc 8 rfl <| kc 9 rfl <| kc 10 rfl <| kc 11 rfl <| kc 31 rfl <| kn) rfl ?_
      refine T_if h rfl (fun b31 h => ?_) (fun b31 h => ?_)
      · skip
        refine T_keep (kc 0 rfl <| kc 1 rfl <| kc 2 rfl <| kc 8 rfl <| kc 9 rfl <| kc 10 rfl <| kc 11 rfl <| kn) rfl ?_
        refine T_reg ?_
        refine R_q _ rfl (v_move (ov rfl)) ?_
        refine R_q _ rfl (v_add (ov rfl) (ov rfl) rfl) ?_
        refine R_q _ rfl (v_assign (ov rfl)) ?_
        refine R_nil ?_
        exact ⟨((i64 ((i64 q) + 1)), j), h, Ent.sel [] (sd 0 rfl rfl <| sd 1 rfl rfl <| sr 2 rfl (rFn (rld cmp_d)) <| sd 8 rfl rfl <| sd 9 rfl rfl <| sd 10 rfl rfl <| sn) (.nil) rfl rfl⟩
      · skip
        refine T_keep (kc 0 rfl <| kc 1 rfl <| kc 2 rfl <| kc 8 rfl <| kc 9 rfl <| kc 10 rfl <| kc 11 rfl <| kn) rfl ?_
        refine T_reg ?_
        refine R_q _ rfl (v_move (ov rfl)) ?_
        refine R_q _ rfl (v_assign (ov rfl)) ?_
        refine R_nil ?_
        exact ⟨(i2, (i64 q)), h, Ent.sel [] (sd 0 rfl rfl <| sd 1 rfl rfl <| sr 2 rfl (rFn (rld cmp_d)) <| sd 8 rfl rfl <| sd 9 rfl rfl <| sd 10 rfl rfl <| sn) (.nil) rfl rfl⟩
    · skip
      refine T_exit ?_
      rw [lx h] at ho1
      replace h := ho1
      exact ⟨i2, h, Ent.sel [] (sd 0 rfl rfl <| sd 1 rfl rfl <| sr 2 rfl (rFn (rld cmp_d)) <| sd 8 rfl rfl <| sd 9 rfl rfl <| sn) (.nil) rfl rfl⟩
  · skip
    obtain ⟨i, rfl⟩ : ∃ x, x = j := ⟨_, rfl⟩
    replace h := t1i h
    refine t1T ?_
    refine T_seq (T_reg ?_)
    refine R_q _ rfl (v_move (ov rfl)) ?_
    refine R_q _ rfl (v_move (ov rfl)) ?_
    refine R_q _ rfl (v_move (ov rfl)) ?_
    refine R_q _ rfl (v_lss (ov rfl) (ov rfl)) ?_
    refine R_q _ rfl (v_move (ov rfl)) ?_
    refine R_q _ rfl (.guarded ((decide (i < (x.length : Int))) == true) rfl rfl rfl rfl fun h => v_move (ov rfl)) ?_
    refine R_q _ rfl (.guarded ((decide (i < (x.length : Int))) == true) rfl rfl rfl rfl fun h => v_move (ov rfl)) ?_
    refine R_q _ rfl (.guarded ((decide (i < (x.length : Int))) == true) rfl rfl rfl rfl fun h => v_move (ov rfl)) ?_
    obtain ⟨x3, h_x3, h⟩ := bnd h
    refine R_q _ rfl (.guarded ((decide (i < (x.length : Int))) == true) rfl rfl rfl rfl fun h => v_ixSG (ow rfl h) (ow rfl h) tL25 (gdT h_x3 h)) ?_
    refine R_q _ rfl (.guarded ((decide (i < (x.length : Int))) == true) rfl rfl rfl rfl fun h => v_loadS_r (ow rfl h) tS3 rfl) ?_
    refine R_q _ rfl (.guarded ((decide (i < (x.length : Int))) == true) rfl rfl rfl rfl fun h => v_move (ov rfl)) ?_
    obtain ⟨y2, h_y2, h⟩ := bnd h
    refine R_q _ rfl (.guarded ((decide (i < (x.length : Int))) == true) rfl rfl rfl rfl fun h => v_callC (ow rfl h) cmp_d (cmp_h _ _ _ (gdT h_y2 h)) (.cons (ow rfl h) (.b rfl) <| .cons (ow rfl h) (.b rfl) <| .nil)) ?_
    refine R_q _ rfl (.guarded ((decide (i < (x.length : Int))) == true) rfl rfl rfl rfl fun h => v_eql (ow rfl h) (ov rfl)) ?_
    refine R_q _ rfl (v_and (ov rfl) (fun hp => ow rfl (gT hp))) ?_
    refine R_q _ rfl (v_assign (ov rfl)) ?_
    refine R_q _ rfl (v_assign (ov rfl)) ?_
    refine R_nil ?_
    obtain rfl := rt (v := (i, ((decide (i < (x.length : Int))) && (decide (y2 = 0))))) h
    refine T_ret (retq ?_ (.two (.tmp rfl (Dat.view (.b rfl))) (.tmp rfl (Dat.view (.b rfl)))))
    rfl

theorem ok_series_Between_1 {k : Int} {at_ : Int} {c0 : api_Series} {r : Int} (h : series_Between_1 k at_ c0 = some r) :
    CSpec Try.prog gl0 40 [.int .i64 k, .int .i64 at_, .rp [.int .i64 c0.Den, .sl 27 (List.map R27 c0.Samples)] 0] (.int .i64 r) := by
  unfold series_Between_1 at h
  replace h := bnd0 h
  refine spec_of (by kernel_rfl) Try.func40 rfl rfl ?_
  intro w0 A
  refine T_seq (T_reg ?_)
  refine R_q _ rfl (v_assign (ov rfl)) ?_
  refine R_nil ?_
  refine T_seq (T_reg ?_)
  refine R_q _ rfl (v_fieldR (ov rfl) tF24_1) ?_
  refine R_q _ rfl (v_loadS_r (ov rfl) tS22 rfl) ?_
  refine R_q _ rfl (v_move (ov rfl)) ?_
  obtain ⟨x, h_x, h⟩ := bnd h
  refine R_q _ rfl (v_ixSG (ov rfl) (ov rfl) tL22 h_x) ?_
  refine R_q _ rfl (v_fieldR (ov rfl) tF27_0) ?_
  refine R_q _ rfl (v_loadS_r (ov rfl) tS3 rfl) ?_
  refine R_q _ rfl (v_move (ov rfl)) ?_
  refine R_q _ rfl (v_sub (ov rfl) (ov rfl) rfl) ?_
  refine R_q _ rfl (v_assign (ov rfl)) ?_
  refine R_nil ?_
  obtain rfl := rt (v := (i64 (x.At - at_))) h
  refine T_ret (retq ?_ (.one (.tmp rfl (Dat.view (.b rfl)))))
  rfl

theorem ok_series_size {n : Int} {r : Int} (h : series_size n = some r) :
    CSpec Try.prog gl0 29 [.int .i64 n] (.int .i64 r) := by
  unfold series_size at h
  replace h := bnd0 h
  refine spec_of (by kernel_rfl) Try.func29 rfl rfl ?_
  intro w0 A
  refine T_seq (T_reg ?_)
  refine R_q _ rfl (v_assign (ov rfl)) ?_
  refine R_nil ?_
  refine T_seq (T_reg ?_)
  refine R_q _ rfl (v_move (ov rfl)) ?_
  refine R_q _ rfl (v_move (ov rfl)) ?_
  refine R_q _ rfl (v_neg (ov rfl) rfl) ?_
  refine R_q _ rfl (v_max (ov rfl) (ov rfl) rfl) ?_
  refine R_q _ rfl (v_assign (ov rfl)) ?_
  refine R_nil ?_
  obtain rfl := rt (v := (max n (i64 (-n)))) h
  refine T_ret (retq ?_ (.one (.tmp rfl (Dat.view (.b rfl)))))
  rfl

theorem ok_series_divisor {a : Int} {b : Int} {r : Int} (h : series_divisor a b = some r) :
    CSpec Try.prog gl0 57 [.int .i64 a, .int .i64 b] (.int .i64 r) := by
  unfold series_divisor at h
  replace h := bnd0 h
  refine spec_of (by kernel_rfl) Try.func57 rfl rfl ?_
  intro w0 A
  refine T_seq (T_reg ?_)
  refine R_q _ rfl (v_assign (ov rfl)) ?_
  refine R_nil ?_
  refine T_keep (kc 0 rfl <| kc 1 rfl <| kn) rfl ?_
  refine T_seq (T_reg ?_)
  refine R_q _ rfl (v_move (ov rfl)) ?_
  obtain ⟨y, h_y, h⟩ := bnd h
  refine R_q _ rfl (v_call (ok_series_size h_y) (.cons (ov rfl) (.b rfl) <| .nil)) ?_
  refine R_q _ rfl (v_move (ov rfl)) ?_
  obtain ⟨y2, h_y2, h⟩ := bnd h
  refine R_q _ rfl (v_call (ok_series_size h_y2) (.cons (ov rfl) (.b rfl) <| .nil)) ?_
  refine R_q _ rfl (v_assign (ov rfl)) ?_
  refine R_q _ rfl (v_assign (ov rfl)) ?_
  refine R_nil ?_
  refine T_joinG id (t1 fun a2 => ⟨[(0, .int .i64 a2)], []⟩) h (fun h => ?_) (fun j h => ?_)
  · skip
    refine T_block ?_
    obtain ⟨r1, hl1, ho1⟩ := bndL h
    refine T_loopG _ (t2 fun a3 b2 => ⟨[(0, .int .i64 a3), (1, .int .i64 b2)], []⟩) _ hl1 (Ent.sel [] (sd 0 rfl rfl <| sd 1 rfl rfl <| sn) (.nil) rfl rfl) (fun n1 s1 h => ?_)
    obtain ⟨a3, b2⟩ := s1
    replace h := t2i h
    refine t2T ?_
    unfold series_divisor_L1 at h
    refine T_seq ?_
    refine T_seq (T_reg ?_)
    refine R_q _ rfl (v_move (ov rfl)) ?_
    refine R_q _ rfl (v_neq (ov rfl) (ov rfl)) ?_
    refine R_nil ?_
    refine T_keep (kc 0 rfl <| kc 1 rfl <| kc 10 rfl <| kn) rfl ?_
    refine T_if h rfl (fun b10 h => ?_) (fun b10 h => ?_)
    · skip
      refine T_skip ?_
      refine T_block ?_
      refine T_keep (kc 0 rfl <| kc 1 rfl <| kn) rfl ?_
      refine T_draw (cw := md0) (by kernel_rfl) ?_
      refine D_free 0 _ rfl (by kernel_rfl) rfl rfl (fun hp' => v_move (ov rfl)) ?_
      refine D_free 1 _ rfl (by kernel_rfl) rfl rfl (fun hp' => v_move (ov rfl)) ?_
      refine D_free 2 _ rfl (by kernel_rfl) rfl rfl (fun hp' => v_move (ov rfl)) ?_
      obtain ⟨q, h_q, h⟩ := bnd h
      refine D_free 3 _ rfl (by kernel_rfl) rfl rfl (fun hp' => v_remG (ov rfl) (ov rfl) h_q) ?_
      refine D_free 4 _ rfl (by kernel_rfl) rfl rfl (fun hp' => v_assign (ov rfl)) ?_
      refine D_free 5 _ rfl (by kernel_rfl) rfl rfl (fun hp' => v_assign (ov rfl)) ?_
      refine D_done (by kernel_rfl) ?_
      exact ⟨(b2, q), h, Ent.sel [] (sd 0 rfl rfl <| sd 1 rfl rfl <| sn) (.nil) rfl rfl⟩
    · skip
      refine T_exit ?_
      rw [lx h] at ho1
      replace h := ho1
      exact ⟨a3, h, Ent.sel [] (sd 0 rfl rfl <| sn) (.nil) rfl rfl⟩
  · skip
    obtain ⟨a2, rfl⟩ : ∃ x, x = j := ⟨_, rfl⟩
    replace h := t1i h
    refine t1T ?_
    refine T_seq (T_reg ?_)
    refine R_q _ rfl (v_move (ov rfl)) ?_
    refine R_q _ rfl (v_assign (ov rfl)) ?_
    refine R_nil ?_
    obtain rfl := rt (v := a2) h
    refine T_ret (retq ?_ (.one (.tmp rfl (Dat.view (.b rfl)))))
    rfl

theorem ok_series_ratio {num : Int} {den : Int} {r : api_Ratio} (h : series_ratio num den = some r) :
    CSpec Try.prog gl0 56 [.int .i64 num, .int .i64 den] (.agg [.int .i64 r.Num, .int .i64 r.Den]) := by
  unfold series_ratio at h
  replace h := bnd0 h
  refine spec_of (by kernel_rfl) Try.func56 rfl rfl ?_
  intro w0 A
  refine T_seq (T_reg ?_)
  refine R_w _ _ rfl (w_alloc (row := [_, _]) 0 rfl tZ44 rfl tZ_44) ?_
  refine R_nil ?_
  refine T_seq (T_reg ?_)
  refine R_q _ rfl (v_move (ov rfl)) ?_
  refine R_q _ rfl (v_move (ov rfl)) ?_
  obtain ⟨y, h_y, h⟩ := bnd h
  refine R_q _ rfl (v_call (ok_series_divisor h_y) (.cons (ov rfl) (.b rfl) <| .cons (ov rfl) (.b rfl) <| .nil)) ?_
  refine R_q _ rfl (v_assign (ov rfl)) ?_
  refine R_nil ?_
  refine T_keep (kc 0 rfl <| kc 1 rfl <| kc 4 rfl <| kc 5 rfl <| kn) rfl ?_
  refine T_seq (T_draw (cw := md0) (by kernel_rfl) ?_)
  refine D_free 0 _ rfl (by kernel_rfl) rfl rfl (fun hp' => v_move (ov rfl)) ?_
  refine D_free 1 _ rfl (by kernel_rfl) rfl rfl (fun hp' => v_move (ov rfl)) ?_
  obtain ⟨q, h_q, h⟩ := bnd h
  refine D_free 2 _ rfl (by kernel_rfl) rfl rfl (fun hp' => v_quoG (ov rfl) (ov rfl) h_q) ?_
  refine D_free 3 _ rfl (by kernel_rfl) rfl rfl (fun hp' => v_move (ov rfl)) ?_
  refine D_free 4 _ rfl (by kernel_rfl) rfl rfl (fun hp' => v_move (ov rfl)) ?_
  obtain ⟨q2, h_q2, h⟩ := bnd h
  refine D_free 5 _ rfl (by kernel_rfl) rfl rfl (fun hp' => v_quoG (ov rfl) (ov rfl) h_q2) ?_
  refine D_free 6 _ rfl (by kernel_rfl) rfl rfl (fun hp' => v_build (ys := [_, _]) tPL44 tHA44 tZ44 (.cons (cvs (ov rfl) (cell1_b rfl)) <| .cons (cvs (ov rfl) (cell1_b rfl)) <| .nil) rfl) ?_
  refine D_one 7 _ _ rfl (by kernel_rfl) rfl rfl (fun h => by cases h) (fun h => by cases h) (w_store (ov rfl) (ov rfl) (cells_agg tA44 rfl) rfl rfl rfl (Nat.le_of_ble_eq_true rfl) (cell1_all rfl) rfl) ?_
  refine D_done (by kernel_rfl) ?_
  obtain rfl := rt (v := (api_Ratio.mk q q2)) h
  refine T_ret (retq ?_ (.one (.agg rfl rfl rfl rfl tA44 rfl rfl (pwB rfl))))
  rfl

theorem ok_series_onLine {a : api_Sample} {b : api_Sample} {at_ : Int} {r : api_Ratio} (h : series_onLine a b at_ = some r) :
    CSpec Try.prog gl0 41 [.agg [.int .i64 a.At, .int .i64 a.N, .int .i64 a.Mark], .agg [.int .i64 b.At, .int .i64 b.N, .int .i64 b.Mark], .int .i64 at_] (.agg [.int .i64 r.Num, .int .i64 r.Den]) := by
  unfold series_onLine at h
  replace h := bnd0 h
  refine spec_of (by kernel_rfl) Try.func41 rfl rfl ?_
  intro w0 A
  refine T_seq (T_reg ?_)
  refine R_q _ rfl (v_boxD (cva (ov rfl)) rfl tZ_27 rfl) ?_
  refine R_q _ rfl (v_boxD (cva (ov rfl)) rfl tZ_27 rfl) ?_
  refine R_w _ _ rfl (w_alloc (row := [_, _]) 0 rfl tZ44 rfl tZ_44) ?_
  refine R_nil ?_
  refine T_keep (kc 2 rfl <| kc 3 rfl <| kc 4 rfl <| kc 6 rfl <| kn) rfl ?_
  refine T_seq (T_reg ?_)
  refine R_q _ rfl (v_move (ov rfl)) ?_
  refine R_q _ rfl (v_fieldR (ov rfl) tF27_0) ?_
  refine R_q _ rfl (v_loadS_r (ov rfl) tS3 rfl) ?_
  refine R_q _ rfl (v_sub (ov rfl) (ov rfl) rfl) ?_
  refine R_q _ rfl (v_fieldR (ov rfl) tF27_0) ?_
  refine R_q _ rfl (v_loadS_r (ov rfl) tS3 rfl) ?_
  refine R_q _ rfl (v_fieldR (ov rfl) tF27_0) ?_
  refine R_q _ rfl (v_loadS_r (ov rfl) tS3 rfl) ?_
  refine R_q _ rfl (v_sub (ov rfl) (ov rfl) rfl) ?_
  obtain ⟨y, h_y, h⟩ := bnd h
  refine R_q _ rfl (v_call (ok_series_ratio h_y) (.cons (ov rfl) (.b rfl) <| .cons (ov rfl) (.b rfl) <| .nil)) ?_
  refine R_w _ _ rfl (w_alloc (row := [_, _]) 1 rfl tZ44 rfl tZ_44) ?_
  refine R_w _ _ rfl (w_store (ov rfl) (ov rfl) (cells_agg tA44 rfl) rfl rfl rfl (Nat.le_of_ble_eq_true rfl) (cell1_all rfl) rfl) ?_
  refine R_nil ?_
  refine T_keep (kc 3 rfl <| kc 4 rfl <| kc 6 rfl <| kc 7 rfl <| kn) rfl ?_
  refine T_seq (T_reg ?_)
  refine R_q _ rfl (v_fieldR (ov rfl) tF27_1) ?_
  refine R_q _ rfl (v_loadS_r (ov rfl) tS3 rfl) ?_
  refine R_q _ rfl (v_fieldR (ov rfl) tF27_1) ?_
  refine R_q _ rfl (v_loadS_r (ov rfl) tS3 rfl) ?_
  refine R_q _ rfl (v_sub (ov rfl) (ov rfl) rfl) ?_
  refine R_q _ rfl (v_fieldP (ov rfl) rfl rfl tF44_1) ?_
  refine R_q _ rfl (v_loadS (ov rfl) rfl rfl rfl tS3 rfl) ?_
  obtain ⟨y2, h_y2, h⟩ := bnd h
  refine R_q _ rfl (v_call (ok_series_divisor h_y2) (.cons (ov rfl) (.b rfl) <| .cons (ov rfl) (.b rfl) <| .nil)) ?_
  refine R_q _ rfl (v_assign (ov rfl)) ?_
  refine R_nil ?_
  refine T_keep (kc 3 rfl <| kc 4 rfl <| kc 6 rfl <| kc 7 rfl <| kc 8 rfl <| kn) rfl ?_
  refine T_seq (T_reg ?_)
  refine R_q _ rfl (v_fieldP (ov rfl) rfl rfl tF44_1) ?_
  refine R_q _ rfl (v_loadS (ov rfl) rfl rfl rfl tS3 rfl) ?_
  refine R_q _ rfl (v_move (ov rfl)) ?_
  obtain ⟨q, h_q, h⟩ := bnd h
  refine R_q _ rfl (v_quoG (ov rfl) (ov rfl) h_q) ?_
  refine R_q _ rfl (v_assign (ov rfl)) ?_
  refine R_nil ?_
  refine T_keep (kc 3 rfl <| kc 4 rfl <| kc 6 rfl <| kc 7 rfl <| kc 8 rfl <| kc 9 rfl <| kn) rfl ?_
  refine T_seq (T_draw (cw := md0) (by kernel_rfl) ?_)
  refine D_read 0 _ rfl (by kernel_rfl) rfl rfl rfl ExtW.refl (fun hp' hx => v_fieldR (ov rfl) tF27_1) ?_
  refine D_read 1 _ rfl (by kernel_rfl) rfl rfl rfl ExtW.refl (fun hp' hx => v_loadS_r (ov rfl) tS3 rfl) ?_
  refine D_free 2 _ rfl (by kernel_rfl) rfl rfl (fun hp' => v_move (ov rfl)) ?_
  refine D_free 3 _ rfl (by kernel_rfl) rfl rfl (fun hp' => v_mul (ov rfl) (ov rfl) rfl) ?_
  refine D_read 4 _ rfl (by kernel_rfl) rfl rfl rfl ExtW.refl (fun hp' hx => v_fieldR (ov rfl) tF27_1) ?_
  refine D_read 5 _ rfl (by kernel_rfl) rfl rfl rfl ExtW.refl (fun hp' hx => v_loadS_r (ov rfl) tS3 rfl) ?_
  refine D_read 6 _ rfl (by kernel_rfl) rfl rfl rfl ExtW.refl (fun hp' hx => v_fieldR (ov rfl) tF27_1) ?_
  refine D_read 7 _ rfl (by kernel_rfl) rfl rfl rfl ExtW.refl (fun hp' hx => v_loadS_r (ov rfl) tS3 rfl) ?_
  refine D_free 8 _ rfl (by kernel_rfl) rfl rfl (fun hp' => v_sub (ov rfl) (ov rfl) rfl) ?_
  refine D_free 9 _ rfl (by kernel_rfl) rfl rfl (fun hp' => v_move (ov rfl)) ?_
  obtain ⟨q2, h_q2, h⟩ := bnd h
  refine D_free 10 _ rfl (by kernel_rfl) rfl rfl (fun hp' => v_quoG (ov rfl) (ov rfl) h_q2) ?_
  refine D_read 11 _ rfl (by kernel_rfl) rfl rfl rfl ExtW.refl (fun hp' hx => v_fieldP (ov rfl) (hx.get rfl rfl) rfl tF44_0) ?_
  refine D_read 12 _ rfl (by kernel_rfl) rfl rfl rfl ExtW.refl (fun hp' hx => v_loadS (ov rfl) (hx.get rfl rfl) rfl rfl tS3 rfl) ?_
  refine D_free 13 _ rfl (by kernel_rfl) rfl rfl (fun hp' => v_mul (ov rfl) (ov rfl) rfl) ?_
  refine D_free 14 _ rfl (by kernel_rfl) rfl rfl (fun hp' => v_add (ov rfl) (ov rfl) rfl) ?_
  refine D_free 15 _ rfl (by kernel_rfl) rfl rfl (fun hp' => v_move (ov rfl)) ?_
  refine D_free 16 _ rfl (by kernel_rfl) rfl rfl (fun hp' => v_build (ys := [_, _]) tPL44 tHA44 tZ44 (.cons (cvs (ov rfl) (cell1_b rfl)) <| .cons (cvs (ov rfl) (cell1_b rfl)) <| .nil) rfl) ?_
  refine D_one 17 _ _ rfl (by kernel_rfl) rfl rfl (fun h => by cases h) (fun h => by cases h) (w_store (ov rfl) (ov rfl) (cells_agg tA44 rfl) rfl rfl rfl (Nat.le_of_ble_eq_true rfl) (cell1_all rfl) rfl) ?_
  refine D_done (by kernel_rfl) ?_
  obtain rfl := rt (v := (api_Ratio.mk (i64 ((i64 (a.N * q)) + (i64 (q2 * y.Num)))) q)) h
  refine T_ret (retq ?_ (.one (.agg rfl rfl rfl rfl tA44 rfl rfl (pwB rfl))))
  rfl

theorem ok_series_Between {s : api_Series} {at_ : Int} {long : Int} {r : api_Ratio × Bool × Int} (h : series_Between s at_ long = some r) :
    CSpec Try.prog gl0 19 [.agg [.int .i64 s.Den, .sl 27 (List.map R27 s.Samples)], .int .i64 at_, .int .i64 long] (.tuple [.agg [.int .i64 r.1.Num, .int .i64 r.1.Den], .bool r.2.1, .int .i64 r.2.2]) := by
  unfold series_Between at h
  replace h := bnd0 h
  refine spec_of (by kernel_rfl) Try.func19 rfl rfl ?_
  intro w0 A
  refine T_seq (T_reg ?_)
  refine R_q _ rfl (v_boxD (cva (ov rfl)) rfl tZ_24 rfl) ?_
  refine R_w _ _ rfl (w_alloc (row := [_, _]) 0 rfl tZ44 rfl tZ_44) ?_
  refine R_q _ rfl (v_assign (ov rfl)) ?_
  refine R_q _ rfl (v_assign (ov rfl)) ?_
  refine R_nil ?_
  refine T_seq ?_
  refine T_keep (kc 1 rfl <| kc 2 rfl <| kc 3 rfl <| kc 6 rfl <| kn) rfl ?_
  refine T_seq (T_reg ?_)
  refine R_q _ rfl (v_loadA_r (ov rfl) tA24 rfl rfl) ?_
  obtain ⟨y, h_y, h⟩ := bnd h
  refine R_q _ rfl (v_call (ok_series_Check h_y) (.cons (ov rfl) (.aggB rfl) <| .nil)) ?_
  refine R_q _ rfl (v_assign (ov rfl)) ?_
  refine R_nil ?_
  refine T_keep (kc 1 rfl <| kc 2 rfl <| kc 3 rfl <| kc 6 rfl <| kc 9 rfl <| kn) rfl ?_
  refine T_seq (T_reg ?_)
  refine R_q _ rfl (v_move (ov rfl)) ?_
  refine R_q _ rfl (v_neq (ov rfl) (ov rfl)) ?_
  refine R_nil ?_
  refine T_keep (kc 1 rfl <| kc 2 rfl <| kc 3 rfl <| kc 6 rfl <| kc 9 rfl <| kc 18 rfl <| kn) rfl ?_
  refine T_if h rfl (fun b18 h => ?_) (fun b18 h => ?_)
  · skip
    refine T_keep (kc 6 rfl <| kc 9 rfl <| kn) rfl ?_
    refine T_seq (T_reg ?_)
    refine R_q _ rfl (v_build (ys := [_, _]) tPL44 tHA44 tZ44 (.nil) rfl) ?_
    refine R_q _ rfl (v_move (ov rfl)) ?_
    refine R_w _ _ rfl (w_store (ov rfl) (ov rfl) (cells_agg tA44 rfl) rfl rfl rfl (Nat.le_of_ble_eq_true rfl) (cell1_all rfl) rfl) ?_
    refine R_q _ rfl (v_assign (ov rfl)) ?_
    refine R_q _ rfl (v_assign (ov rfl)) ?_
    refine R_nil ?_
    obtain rfl := rt (v := ((api_Ratio.mk 0 0), false, y)) h
    refine T_ret (retq ?_ (.three (.agg rfl rfl rfl rfl tA44 rfl rfl (pwB rfl)) (.tmp rfl (Dat.view (.b rfl))) (.tmp rfl (Dat.view (.b rfl)))))
    rfl
  · skip
    refine T_skip ?_
    refine T_seq ?_
    refine T_keep (kc 1 rfl <| kc 2 rfl <| kc 3 rfl <| kc 6 rfl <| kn) rfl ?_
    refine T_seq (T_reg ?_)
    refine R_q _ rfl (v_move (ov rfl)) ?_
    obtain ⟨y2, h_y2, h⟩ := bnd h
    refine R_q _ rfl (v_call (ok_series_within h_y2) (.cons (ov rfl) (.b rfl) <| .cons (ov rfl) (.b rfl) <| .cons (ov rfl) (.b rfl) <| .nil)) ?_
    refine R_q _ rfl (v_not (ov rfl)) ?_
    refine R_q _ rfl (v_move (ov rfl)) ?_
    refine R_q _ rfl (.guarded ((!y2) == false) rfl rfl rfl rfl fun h => v_move (ov rfl)) ?_
    obtain ⟨y3, h_y3, h⟩ := bnd h
    refine R_q _ rfl (.guarded ((!y2) == false) rfl rfl rfl rfl fun h => v_call (ok_series_within (gdT h_y3 h)) (.cons (ow rfl h) (.b rfl) <| .cons (ov rfl) (.b rfl) <| .cons (ov rfl) (.b rfl) <| .nil)) ?_
    refine R_q _ rfl (.guarded ((!y2) == false) rfl rfl rfl rfl fun h => v_not (ow rfl h)) ?_
    refine R_q _ rfl (v_or (ov rfl) (fun hp => ow rfl (gF hp))) ?_
    refine R_nil ?_
    refine T_keep (kc 1 rfl <| kc 2 rfl <| kc 3 rfl <| kc 6 rfl <| kc 28 rfl <| kn) rfl ?_
    refine T_if h rfl (fun b28 h => ?_) (fun b28 h => ?_)
    · skip
      refine T_keep (kc 6 rfl <| kn) rfl ?_
      refine T_seq (T_reg ?_)
      refine R_q _ rfl (v_build (ys := [_, _]) tPL44 tHA44 tZ44 (.nil) rfl) ?_
      refine R_w _ _ rfl (w_store (ov rfl) (ov rfl) (cells_agg tA44 rfl) rfl rfl rfl (Nat.le_of_ble_eq_true rfl) (cell1_all rfl) rfl) ?_
      refine R_q _ rfl (v_assign (ov rfl)) ?_
      refine R_q _ rfl (v_assign (ov rfl)) ?_
      refine R_nil ?_
      obtain rfl := rt (v := ((api_Ratio.mk 0 0), false, 9)) h
      refine T_ret (retq ?_ (.three (.agg rfl rfl rfl rfl tA44 rfl rfl (pwB rfl)) (.tmp rfl (Dat.view (.b rfl))) (.tmp rfl (Dat.view (.b rfl)))))
      rfl
    · skip
      refine T_skip ?_
      refine T_keep (kc 1 rfl <| kc 2 rfl <| kc 3 rfl <| kc 6 rfl <| kn) rfl ?_
      refine T_seq (T_reg ?_)
      refine R_q _ rfl (v_loadA_r (ov rfl) tA24 rfl rfl) ?_
      obtain ⟨y4, h_y4, h⟩ := bnd h
      refine R_q _ rfl (v_call (ok_series_solids h_y4) (.cons (ov rfl) (.aggB rfl) <| .nil)) ?_
      refine R_q _ rfl (v_assign (ov rfl)) ?_
      refine R_nil ?_
      refine T_keep (kc 1 rfl <| kc 2 rfl <| kc 3 rfl <| kc 6 rfl <| kc 10 rfl <| kn) rfl ?_
      refine T_seq (T_reg ?_)
      refine R_q _ rfl (v_move (ov rfl)) ?_
      refine R_q _ rfl (v_move (ov rfl)) ?_
      refine R_q _ rfl (v_makeFunc (.cons (ov rfl) <| .nil)) ?_
      obtain ⟨y5, h_y5, h⟩ := bnd h
      refine R_q _ rfl (v_call (ok_slices_BinarySearchFunc_int_int_int rfl (fun z0 z1 _ hz => ok_series_Between_1 hz) h_y5) (.cons (ov rfl) (.b rfl) <| .cons (ov rfl) (.b rfl) <| .cons (ov rfl) (.fnC (.cons (.b rfl) <| .nil)) <| .nil)) ?_
      refine R_q _ rfl (v_move (ov rfl)) ?_
      refine R_q _ rfl (v_extract (ov rfl) rfl) ?_
      refine R_q _ rfl (v_extract (ov rfl) rfl) ?_
      refine R_q _ rfl (v_assign (ov rfl)) ?_
      refine R_q _ rfl (v_assign (ov rfl)) ?_
      refine R_nil ?_
      refine T_seq ?_
      refine T_block ?_
      refine T_keep (kc 1 rfl <| kc 2 rfl <| kc 3 rfl <| kc 6 rfl <| kc 10 rfl <| kc 11 rfl <| kc 12 rfl <| kn) rfl ?_
      refine T_seq (T_reg ?_)
      refine R_q _ rfl (v_move (ov rfl)) ?_
      refine R_q _ rfl (v_assign (ov rfl)) ?_
      refine R_nil ?_
      refine T_keep (kc 1 rfl <| kc 2 rfl <| kc 3 rfl <| kc 6 rfl <| kc 10 rfl <| kc 11 rfl <| kc 39 rfl <| kn) rfl ?_
      refine T_if h rfl (fun b39 h => ?_) (fun b39 h => ?_)
      · skip
        refine T_keep (kc 3 rfl <| kc 6 rfl <| kc 10 rfl <| kc 11 rfl <| kn) rfl ?_
        refine T_seq (T_draw (cw := md0) (by kernel_rfl) ?_)
        refine D_read 0 _ rfl (by kernel_rfl) rfl rfl rfl ExtW.refl (fun hp' hx => v_fieldR (ov rfl) tF24_1) ?_
        refine D_read 1 _ rfl (by kernel_rfl) rfl rfl rfl ExtW.refl (fun hp' hx => v_loadS_r (ov rfl) tS22 rfl) ?_
        refine D_free 2 _ rfl (by kernel_rfl) rfl rfl (fun hp' => v_move (ov rfl)) ?_
        refine D_free 3 _ rfl (by kernel_rfl) rfl rfl (fun hp' => v_move (ov rfl)) ?_
        obtain ⟨x, h_x, h⟩ := bnd h
        refine D_read 4 _ rfl (by kernel_rfl) rfl rfl rfl ExtW.refl (fun hp' hx => v_ixSG (ov rfl) (ov rfl) tL25 h_x) ?_
        refine D_read 5 _ rfl (by kernel_rfl) rfl rfl rfl ExtW.refl (fun hp' hx => v_loadS_r (ov rfl) tS3 rfl) ?_
        obtain ⟨x2, h_x2, h⟩ := bnd h
        refine D_read 6 _ rfl (by kernel_rfl) rfl rfl rfl ExtW.refl (fun hp' hx => v_ixSG (ov rfl) (ov rfl) tL22 h_x2) ?_
        refine D_read 7 _ rfl (by kernel_rfl) rfl rfl rfl ExtW.refl (fun hp' hx => v_fieldR (ov rfl) tF27_1) ?_
        refine D_read 8 _ rfl (by kernel_rfl) rfl rfl rfl ExtW.refl (fun hp' hx => v_loadS_r (ov rfl) tS3 rfl) ?_
        refine D_free 9 _ rfl (by kernel_rfl) rfl rfl (fun hp' => v_build (ys := [_, _]) tPL44 tHA44 tZ44 (.cons (cvs (ov rfl) (cell1_b rfl)) <| .cons (cvs (ov rfl) (cell1_b rfl)) <| .nil) rfl) ?_
        refine D_one 10 _ _ rfl (by kernel_rfl) rfl rfl (fun h => by cases h) (fun h => by cases h) (w_store (ov rfl) (ov rfl) (cells_agg tA44 rfl) rfl rfl rfl (Nat.le_of_ble_eq_true rfl) (cell1_all rfl) rfl) ?_
        refine D_free 11 _ rfl (by kernel_rfl) rfl rfl (fun hp' => v_assign (ov rfl)) ?_
        refine D_free 12 _ rfl (by kernel_rfl) rfl rfl (fun hp' => v_assign (ov rfl)) ?_
        refine D_done (by kernel_rfl) ?_
        obtain rfl := rt (v := ((api_Ratio.mk x2.N 1), true, 0)) h
        refine T_ret (retq ?_ (.three (.agg rfl rfl rfl rfl tA44 rfl rfl (pwB rfl)) (.tmp rfl (Dat.view (.b rfl))) (.tmp rfl (Dat.view (.b rfl)))))
        rfl
      · skip
        refine T_keep (kc 1 rfl <| kc 2 rfl <| kc 3 rfl <| kc 6 rfl <| kc 10 rfl <| kc 11 rfl <| kn) rfl ?_
        refine T_seq (T_reg ?_)
        refine R_q _ rfl (v_move (ov rfl)) ?_
        refine R_q _ rfl (v_eql (ov rfl) (ov rfl)) ?_
        refine R_q _ rfl (v_move (ov rfl)) ?_
        refine R_q _ rfl (.guarded ((decide (y5.1 = 0)) == false) rfl rfl rfl rfl fun h => v_move (ov rfl)) ?_
        refine R_q _ rfl (.guarded ((decide (y5.1 = 0)) == false) rfl rfl rfl rfl fun h => v_move (ov rfl)) ?_
        refine R_q _ rfl (.guarded ((decide (y5.1 = 0)) == false) rfl rfl rfl rfl fun h => v_len (slv_sl (ow rfl h) tZ_3) tL25 (len_map _ _)) ?_
        refine R_q _ rfl (.guarded ((decide (y5.1 = 0)) == false) rfl rfl rfl rfl fun h => v_eql (ow rfl h) (ow rfl h)) ?_
        refine R_q _ rfl (v_or (ov rfl) (fun hp => ow rfl (gF hp))) ?_
        refine R_q _ rfl (v_assign (ov rfl)) ?_
        refine R_nil ?_
        refine T_keep (kc 1 rfl <| kc 2 rfl <| kc 3 rfl <| kc 6 rfl <| kc 10 rfl <| kc 11 rfl <| kc 51 rfl <| kn) rfl ?_
        refine T_if h rfl (fun b51 h => ?_) (fun b51 h => ?_)
        · skip
          refine T_keep (kc 6 rfl <| kn) rfl ?_
          refine T_seq (T_reg ?_)
          refine R_q _ rfl (v_build (ys := [_, _]) tPL44 tHA44 tZ44 (.nil) rfl) ?_
          refine R_w _ _ rfl (w_store (ov rfl) (ov rfl) (cells_agg tA44 rfl) rfl rfl rfl (Nat.le_of_ble_eq_true rfl) (cell1_all rfl) rfl) ?_
          refine R_q _ rfl (v_assign (ov rfl)) ?_
          refine R_q _ rfl (v_assign (ov rfl)) ?_
          refine R_nil ?_
          obtain rfl := rt (v := ((api_Ratio.mk 0 0), false, 0)) h
          refine T_ret (retq ?_ (.three (.agg rfl rfl rfl rfl tA44 rfl rfl (pwB rfl)) (.tmp rfl (Dat.view (.b rfl))) (.tmp rfl (Dat.view (.b rfl)))))
          rfl
        · skip
          refine T_skip ?_
          refine T_keep (kc 1 rfl <| kc 2 rfl <| kc 3 rfl <| kc 6 rfl <| kc 10 rfl <| kc 11 rfl <| kn) rfl ?_
          refine T_seq (T_draw (cw := ⟨false, false, [], [61, 62, 66, 67, 68, 69, 70, 71, 74, 75, 76, 77], []⟩) (by kernel_rfl) ?_)
          refine D_free 0 _ rfl (by kernel_rfl) rfl rfl (fun hp' => v_fieldR (ov rfl) tF24_1) ?_
          refine D_free 1 _ rfl (by kernel_rfl) rfl rfl (fun hp' => v_loadS_r (ov rfl) tS22 rfl) ?_
          refine D_free 2 _ rfl (by kernel_rfl) rfl rfl (fun hp' => v_move (ov rfl)) ?_
          refine D_free 3 _ rfl (by kernel_rfl) rfl rfl (fun hp' => v_move (ov rfl)) ?_
          refine D_free 4 _ rfl (by kernel_rfl) rfl rfl (fun hp' => v_sub (ov rfl) (ov rfl) rfl) ?_
          obtain ⟨x3, h_x3, h⟩ := bnd h
          refine D_free 5 _ rfl (by kernel_rfl) rfl rfl (fun hp' => v_ixSG (ov rfl) (ov rfl) tL25 h_x3) ?_
          refine D_free 6 _ rfl (by kernel_rfl) rfl rfl (fun hp' => v_loadS_r (ov rfl) tS3 rfl) ?_
          obtain ⟨x4, h_x4, h⟩ := bnd h
          refine D_free 7 _ rfl (by kernel_rfl) rfl rfl (fun hp' => v_ixSG (ov rfl) (ov rfl) tL22 h_x4) ?_
          refine D_free 8 _ rfl (by kernel_rfl) rfl rfl (fun hp' => v_loadA_r (ov rfl) tA27 rfl rfl) ?_
          refine D_free 9 _ rfl (by kernel_rfl) rfl rfl (fun hp' => v_fieldR (ov rfl) tF24_1) ?_
          refine D_free 10 _ rfl (by kernel_rfl) rfl rfl (fun hp' => v_loadS_r (ov rfl) tS22 rfl) ?_
          refine D_free 11 _ rfl (by kernel_rfl) rfl rfl (fun hp' => v_move (ov rfl)) ?_
          refine D_free 12 _ rfl (by kernel_rfl) rfl rfl (fun hp' => v_move (ov rfl)) ?_
          obtain ⟨x5, h_x5, h⟩ := bnd h
          refine D_free 13 _ rfl (by kernel_rfl) rfl rfl (fun hp' => v_ixSG (ov rfl) (ov rfl) tL25 h_x5) ?_
          refine D_free 14 _ rfl (by kernel_rfl) rfl rfl (fun hp' => v_loadS_r (ov rfl) tS3 rfl) ?_
          obtain ⟨x6, h_x6, h⟩ := bnd h
          refine D_free 15 _ rfl (by kernel_rfl) rfl rfl (fun hp' => v_ixSG (ov rfl) (ov rfl) tL22 h_x6) ?_
          refine D_free 16 _ rfl (by kernel_rfl) rfl rfl (fun hp' => v_loadA_r (ov rfl) tA27 rfl rfl) ?_
          refine D_two 17 18 rfl rfl (by kernel_rfl) rfl rfl rfl rfl (fun _ => Ext.app) (fun _ => Ext.app) (fun h => by cases h) (fun h => by cases h) (w_alloc (row := [_, _, _]) 1 rfl tZ27 rfl tZ_27) (w_alloc (row := [_, _, _]) 1 rfl tZ27 rfl tZ_27) ?_ ?_
          · skip
            refine D_one 18 _ _ rfl (by kernel_rfl) rfl rfl (fun _ => Ext.app) (fun h => by cases h) (w_alloc (row := [_, _, _]) 2 rfl tZ27 rfl tZ_27) ?_
            refine D_one 19 _ _ rfl (by kernel_rfl) rfl rfl (fun h => by cases h) (fun h => by cases h) (w_store (ov rfl) (ov rfl) (cells_agg tA27 rfl) rfl rfl rfl (Nat.le_of_ble_eq_true rfl) (cell1_all rfl) rfl) ?_
            refine D_one 20 _ _ rfl (by kernel_rfl) rfl rfl (fun h => by cases h) (fun h => by cases h) (w_store (ov rfl) (ov rfl) (cells_agg tA27 rfl) rfl rfl rfl (Nat.le_of_ble_eq_true rfl) (cell1_all rfl) rfl) ?_
            refine D_done (by kernel_rfl) ?_
            refine T_seq ?_
            refine T_keep (kc 1 rfl <| kc 2 rfl <| kc 6 rfl <| kc 13 rfl <| kc 14 rfl <| kn) rfl ?_
            refine T_seq (T_reg ?_)
            refine R_q _ rfl (v_fieldP (ov rfl) rfl rfl tF27_0) ?_
            refine R_q _ rfl (v_loadS (ov rfl) rfl rfl rfl tS3 rfl) ?_
            refine R_q _ rfl (v_fieldP (ov rfl) rfl rfl tF27_0) ?_
            refine R_q _ rfl (v_loadS (ov rfl) rfl rfl rfl tS3 rfl) ?_
            refine R_q _ rfl (v_sub (ov rfl) (ov rfl) rfl) ?_
            refine R_q _ rfl (v_move (ov rfl)) ?_
            refine R_q _ rfl (v_gtr (ov rfl) (ov rfl)) ?_
            refine R_nil ?_
            refine T_keep (kc 1 rfl <| kc 6 rfl <| kc 13 rfl <| kc 14 rfl <| kc 84 rfl <| kn) rfl ?_
            refine T_if h rfl (fun b84 h => ?_) (fun b84 h => ?_)
            · skip
              refine T_keep (kc 6 rfl <| kn) rfl ?_
              refine T_seq (T_reg ?_)
              refine R_q _ rfl (v_build (ys := [_, _]) tPL44 tHA44 tZ44 (.nil) rfl) ?_
              refine R_w _ _ rfl (w_store (ov rfl) (ov rfl) (cells_agg tA44 rfl) rfl rfl rfl (Nat.le_of_ble_eq_true rfl) (cell1_all rfl) rfl) ?_
              refine R_q _ rfl (v_assign (ov rfl)) ?_
              refine R_q _ rfl (v_assign (ov rfl)) ?_
              refine R_nil ?_
              obtain rfl := rt (v := ((api_Ratio.mk 0 0), false, 0)) h
              refine T_ret (retq ?_ (.three (.agg rfl rfl rfl rfl tA44 rfl rfl (pwB rfl)) (.tmp rfl (Dat.view (.b rfl))) (.tmp rfl (Dat.view (.b rfl)))))
              rfl
            · skip
              refine T_skip ?_
              refine T_keep (kc 1 rfl <| kc 6 rfl <| kc 13 rfl <| kc 14 rfl <| kn) rfl ?_
              refine T_seq (T_reg ?_)
              refine R_q _ rfl (v_loadA (ov rfl) rfl rfl rfl tA27 rfl rfl) ?_
              refine R_q _ rfl (v_loadA (ov rfl) rfl rfl rfl tA27 rfl rfl) ?_
              refine R_q _ rfl (v_move (ov rfl)) ?_
              obtain ⟨y6, h_y6, h⟩ := bnd h
              refine R_q _ rfl (v_call (ok_series_onLine h_y6) (.cons (ov rfl) (.aggB rfl) <| .cons (ov rfl) (.aggB rfl) <| .cons (ov rfl) (.b rfl) <| .nil)) ?_
              refine R_w _ _ rfl (w_store (ov rfl) (ov rfl) (cells_agg tA44 rfl) rfl rfl rfl (Nat.le_of_ble_eq_true rfl) (cell1_all rfl) rfl) ?_
              refine R_q _ rfl (v_assign (ov rfl)) ?_
              refine R_q _ rfl (v_assign (ov rfl)) ?_
              refine R_nil ?_
              obtain rfl := rt (v := (y6, true, 0)) h
              refine T_ret (retq ?_ (.three (.agg rfl rfl rfl rfl tA44 rfl rfl (pwB rfl)) (.tmp rfl (Dat.view (.b rfl))) (.tmp rfl (Dat.view (.b rfl)))))
              rfl
          · skip
            refine D_one 17 _ _ rfl (by kernel_rfl) rfl rfl (fun _ => Ext.app) (fun h => by cases h) (w_alloc (row := [_, _, _]) 2 rfl tZ27 rfl tZ_27) ?_
            refine D_one 19 _ _ rfl (by kernel_rfl) rfl rfl (fun h => by cases h) (fun h => by cases h) (w_store (ov rfl) (ov rfl) (cells_agg tA27 rfl) rfl rfl rfl (Nat.le_of_ble_eq_true rfl) (cell1_all rfl) rfl) ?_
            refine D_one 20 _ _ rfl (by kernel_rfl) rfl rfl (fun h => by cases h) (fun h => by cases h) (w_store (ov rfl) (ov rfl) (cells_agg tA27 rfl) rfl rfl rfl (Nat.le_of_ble_eq_true rfl) (cell1_all rfl) rfl) ?_
            refine D_done (by kernel_rfl) ?_
            refine T_seq ?_
            refine T_keep (kc 1 rfl <| kc 2 rfl <| kc 6 rfl <| kc 13 rfl <| kc 14 rfl <| kn) rfl ?_
            refine T_seq (T_reg ?_)
            refine R_q _ rfl (v_fieldP (ov rfl) rfl rfl tF27_0) ?_
            refine R_q _ rfl (v_loadS (ov rfl) rfl rfl rfl tS3 rfl) ?_
            refine R_q _ rfl (v_fieldP (ov rfl) rfl rfl tF27_0) ?_
            refine R_q _ rfl (v_loadS (ov rfl) rfl rfl rfl tS3 rfl) ?_
            refine R_q _ rfl (v_sub (ov rfl) (ov rfl) rfl) ?_
            refine R_q _ rfl (v_move (ov rfl)) ?_
            refine R_q _ rfl (v_gtr (ov rfl) (ov rfl)) ?_
            refine R_nil ?_
            refine T_keep (kc 1 rfl <| kc 6 rfl <| kc 13 rfl <| kc 14 rfl <| kc 84 rfl <| kn) rfl ?_
            refine T_if h rfl (fun b84 h => ?_) (fun b84 h => ?_)
            · skip
              refine T_keep (kc 6 rfl <| kn) rfl ?_
              refine T_seq (T_reg ?_)
              refine R_q _ rfl (v_build (ys := [_, _]) tPL44 tHA44 tZ44 (.nil) rfl) ?_
              refine R_w _ _ rfl (w_store (ov rfl) (ov rfl) (cells_agg tA44 rfl) rfl rfl rfl (Nat.le_of_ble_eq_true rfl) (cell1_all rfl) rfl) ?_
              refine R_q _ rfl (v_assign (ov rfl)) ?_
              refine R_q _ rfl (v_assign (ov rfl)) ?_
              refine R_nil ?_
              obtain rfl := rt (v := ((api_Ratio.mk 0 0), false, 0)) h
              refine T_ret (retq ?_ (.three (.agg rfl rfl rfl rfl tA44 rfl rfl (pwB rfl)) (.tmp rfl (Dat.view (.b rfl))) (.tmp rfl (Dat.view (.b rfl)))))
              rfl
            · skip
              refine T_skip ?_
              refine T_keep (kc 1 rfl <| kc 6 rfl <| kc 13 rfl <| kc 14 rfl <| kn) rfl ?_
              refine T_seq (T_reg ?_)
              refine R_q _ rfl (v_loadA (ov rfl) rfl rfl rfl tA27 rfl rfl) ?_
              refine R_q _ rfl (v_loadA (ov rfl) rfl rfl rfl tA27 rfl rfl) ?_
              refine R_q _ rfl (v_move (ov rfl)) ?_
              obtain ⟨y6, h_y6, h⟩ := bnd h
              refine R_q _ rfl (v_call (ok_series_onLine h_y6) (.cons (ov rfl) (.aggB rfl) <| .cons (ov rfl) (.aggB rfl) <| .cons (ov rfl) (.b rfl) <| .nil)) ?_
              refine R_w _ _ rfl (w_store (ov rfl) (ov rfl) (cells_agg tA44 rfl) rfl rfl rfl (Nat.le_of_ble_eq_true rfl) (cell1_all rfl) rfl) ?_
              refine R_q _ rfl (v_assign (ov rfl)) ?_
              refine R_q _ rfl (v_assign (ov rfl)) ?_
              refine R_nil ?_
              obtain rfl := rt (v := (y6, true, 0)) h
              refine T_ret (retq ?_ (.three (.agg rfl rfl rfl rfl tA44 rfl rfl (pwB rfl)) (.tmp rfl (Dat.view (.b rfl))) (.tmp rfl (Dat.view (.b rfl)))))
              rfl

theorem ok_ref5_Solids {s : api_Series} {r : (List Int)} (h : ref5_Solids s = some r) :
    CSpec Try.prog gl0 58 [.agg [.int .i64 s.Den, .sl 27 (List.map R27 s.Samples)]] (.sl 3 (List.map R3 r)) := by
  unfold ref5_Solids at h
  replace h := bnd0 h
  refine spec_of (by kernel_rfl) Try.func58 rfl rfl ?_
  intro w0 A
  refine T_seq (T_reg ?_)
  refine R_q _ rfl (v_boxD (cva (ov rfl)) rfl tZ_24 rfl) ?_
  refine R_q _ rfl (v_assign (ov rfl)) ?_
  refine R_nil ?_
  refine T_keep (kc 1 rfl <| kn) rfl ?_
  refine T_seq (T_reg ?_)
  refine R_q _ rfl (v_assign (ov rfl)) ?_
  refine R_nil ?_
  refine T_joinG id (t1 fun out => ⟨[(3, .own 0 out.length)], [some ⟨3, List.map R3 out⟩]⟩) h (fun h => ?_) (fun j h => ?_)
  · skip
    refine T_seq (T_reg ?_)
    refine R_q _ rfl (v_assign (ov rfl)) ?_
    refine R_nil ?_
    refine T_block ?_
    obtain ⟨r1, hl1, ho1⟩ := bndL h
    refine T_loopG _ (t2 fun out2 i => ⟨[(1, .rp [.int .i64 s.Den, .sl 27 (List.map R27 s.Samples)] 0), (3, .own 0 out2.length), (4, .int .i64 i)], [some ⟨3, List.map R3 out2⟩]⟩) _ hl1 (Ent.sel [none] (sd 1 rfl rfl <| sr 3 rfl (.row rfl) <| sd 4 rfl rfl <| sn) (.row 3 <| .nil) rfl rfl) (fun n1 s1 h => ?_)
    obtain ⟨out2, i⟩ := s1
    replace h := t2i h
    refine t2T ?_
    unfold ref5_Solids_L1 at h
    refine T_seq ?_
    refine T_seq (T_reg ?_)
    refine R_q _ rfl (v_move (ov rfl)) ?_
    refine R_q _ rfl (v_fieldR (ov rfl) tF24_1) ?_
    refine R_q _ rfl (v_loadS_r (ov rfl) tS22 rfl) ?_
    refine R_q _ rfl (v_len (slv_sl (ov rfl) tZ_27) tL22 (len_map _ _)) ?_
    refine R_q _ rfl (v_lss (ov rfl) (ov rfl)) ?_
    refine R_nil ?_
    refine T_keep (kc 1 rfl <| kc 3 rfl <| kc 4 rfl <| kc 9 rfl <| kn) rfl ?_
    refine T_if h rfl (fun b9 h => ?_) (fun b9 h => ?_)
    · skip
      refine T_skip ?_
      refine T_seq ?_
      refine T_block ?_
      refine T_keep (kc 1 rfl <| kc 3 rfl <| kc 4 rfl <| kn) rfl ?_
      refine T_seq (T_reg ?_)
      refine R_q _ rfl (v_fieldR (ov rfl) tF24_1) ?_
      refine R_q _ rfl (v_loadS_r (ov rfl) tS22 rfl) ?_
      refine R_q _ rfl (v_move (ov rfl)) ?_
      obtain ⟨x, h_x, h⟩ := bnd h
      refine R_q _ rfl (v_ixSG (ov rfl) (ov rfl) tL22 h_x) ?_
      refine R_q _ rfl (v_fieldR (ov rfl) tF27_2) ?_
      refine R_q _ rfl (v_loadS_r (ov rfl) tS3 rfl) ?_
      obtain ⟨y, h_y, h⟩ := bnd h
      refine R_q _ rfl (v_call (ok_ref5_solid h_y) (.cons (ov rfl) (.b rfl) <| .nil)) ?_
      refine R_nil ?_
      refine T_keep (kc 1 rfl <| kc 3 rfl <| kc 4 rfl <| kc 18 rfl <| kn) rfl ?_
      refine T_if h rfl (fun b18 h => ?_) (fun b18 h => ?_)
      · skip
        refine T_keep (kc 1 rfl <| kc 3 rfl <| kc 4 rfl <| kn) rfl ?_
        refine T_reg ?_
        refine R_q _ rfl (v_move (ov rfl)) ?_
        refine R_q _ rfl (v_move (ov rfl)) ?_
        refine R_q (.sl 3 (List.map R3 ([i] : List Int))) rfl (v_lit tL25 (.cons (cvs (ov rfl) (cell1_b rfl)) rfl (.cons (.b rfl) .nil) <| .nil) rfl rfl) ?_
        obtain ⟨l, h_l, h⟩ := bnd h
        refine R_w _ _ rfl (w_appendG (ov rfl) (slv_sl (ov rfl) tZ_3) tL25 rfl rfl rfl (fun _ => cell1_all rfl) rfl h_l) ?_
        refine R_q _ rfl (v_assign (ov rfl)) ?_
        refine R_nil ?_
        refine T_keep (kc 1 rfl <| kc 3 rfl <| kc 4 rfl <| kn) rfl ?_
        refine T_reg ?_
        refine R_q _ rfl (v_move (ov rfl)) ?_
        refine R_q _ rfl (v_add (ov rfl) (ov rfl) rfl) ?_
        refine R_q _ rfl (v_assign (ov rfl)) ?_
        refine R_nil ?_
        exact ⟨(l, (i64 (i + 1))), h, Ent.sel [some 0] (sd 1 rfl rfl <| sr 3 rfl (.own _ rfl) <| sd 4 rfl rfl <| sn) (.cons rfl (roM D3) <| .nil) rfl rfl⟩
      · skip
        refine T_skip ?_
        refine T_keep (kc 1 rfl <| kc 3 rfl <| kc 4 rfl <| kn) rfl ?_
        refine T_reg ?_
        refine R_q _ rfl (v_move (ov rfl)) ?_
        refine R_q _ rfl (v_add (ov rfl) (ov rfl) rfl) ?_
        refine R_q _ rfl (v_assign (ov rfl)) ?_
        refine R_nil ?_
        exact ⟨(out2, (i64 (i + 1))), h, Ent.sel [some 0] (sd 1 rfl rfl <| sr 3 rfl (.own _ rfl) <| sd 4 rfl rfl <| sn) (.cons rfl (roM D3) <| .nil) rfl rfl⟩
    · skip
      refine T_exit ?_
      rw [lx h] at ho1
      replace h := ho1
      exact ⟨out2, h, Ent.sel [some 0] (sr 3 rfl (.own _ rfl) <| sn) (.cons rfl (roM D3) <| .nil) rfl rfl⟩
  · skip
    obtain ⟨out, rfl⟩ : ∃ x, x = j := ⟨_, rfl⟩
    replace h := t1i h
    refine t1T ?_
    refine T_seq (T_reg ?_)
    refine R_q _ rfl (v_move (ov rfl)) ?_
    refine R_q _ rfl (v_assign (ov rfl)) ?_
    refine R_nil ?_
    obtain rfl := rt (v := out) h
    refine T_ret (retq ?_ (.one (.tmp rfl (View.ownM rfl rfl D3))))
    rfl

theorem ok_bits_Mul64 {x : Int} {y : Int} {r : Int × Int} (h : bits_Mul64 x y = some r) :
    CSpec Try.prog gl0 59 [.int .u64 x, .int .u64 y] (.tuple [.int .u64 r.1, .int .u64 r.2]) := by
  unfold bits_Mul64 at h
  replace h := bnd0 h
  refine spec_of (by kernel_rfl) Try.func59 rfl rfl ?_
  intro w0 A
  refine T_seq (T_reg ?_)
  refine R_q _ rfl (v_assign (ov rfl)) ?_
  refine R_q _ rfl (v_assign (ov rfl)) ?_
  refine R_nil ?_
  refine T_keep (kc 0 rfl <| kc 1 rfl <| kn) rfl ?_
  refine T_seq (T_reg ?_)
  refine R_q _ rfl (v_move (ov rfl)) ?_
  refine R_q _ rfl (v_and_ (ov rfl) (ov rfl)) ?_
  refine R_q _ rfl (v_assign (ov rfl)) ?_
  refine R_nil ?_
  refine T_keep (kc 0 rfl <| kc 1 rfl <| kc 6 rfl <| kn) rfl ?_
  refine T_seq (T_reg ?_)
  refine R_q _ rfl (v_move (ov rfl)) ?_
  obtain ⟨q, h_q, h⟩ := bnd h
  refine R_q _ rfl (v_shrG (ov rfl) (ov rfl) h_q) ?_
  refine R_q _ rfl (v_assign (ov rfl)) ?_
  refine R_nil ?_
  refine T_keep (kc 0 rfl <| kc 1 rfl <| kc 6 rfl <| kc 7 rfl <| kn) rfl ?_
  refine T_seq (T_reg ?_)
  refine R_q _ rfl (v_move (ov rfl)) ?_
  refine R_q _ rfl (v_and_ (ov rfl) (ov rfl)) ?_
  refine R_q _ rfl (v_assign (ov rfl)) ?_
  refine R_nil ?_
  refine T_keep (kc 0 rfl <| kc 1 rfl <| kc 6 rfl <| kc 7 rfl <| kc 8 rfl <| kn) rfl ?_
  refine T_seq (T_reg ?_)
  refine R_q _ rfl (v_move (ov rfl)) ?_
  obtain ⟨q2, h_q2, h⟩ := bnd h
  refine R_q _ rfl (v_shrG (ov rfl) (ov rfl) h_q2) ?_
  refine R_q _ rfl (v_assign (ov rfl)) ?_
  refine R_nil ?_
  refine T_keep (kc 0 rfl <| kc 1 rfl <| kc 6 rfl <| kc 7 rfl <| kc 8 rfl <| kc 9 rfl <| kn) rfl ?_
  refine T_seq (T_reg ?_)
  refine R_q _ rfl (v_move (ov rfl)) ?_
  refine R_q _ rfl (v_move (ov rfl)) ?_
  refine R_q _ rfl (v_mul (ov rfl) (ov rfl) rfl) ?_
  refine R_q _ rfl (v_assign (ov rfl)) ?_
  refine R_nil ?_
  refine T_keep (kc 0 rfl <| kc 1 rfl <| kc 6 rfl <| kc 7 rfl <| kc 8 rfl <| kc 9 rfl <| kc 10 rfl <| kn) rfl ?_
  refine T_seq (T_reg ?_)
  refine R_q _ rfl (v_move (ov rfl)) ?_
  refine R_q _ rfl (v_move (ov rfl)) ?_
  refine R_q _ rfl (v_mul (ov rfl) (ov rfl) rfl) ?_
  refine R_q _ rfl (v_move (ov rfl)) ?_
  obtain ⟨q3, h_q3, h⟩ := bnd h
  refine R_q _ rfl (v_shrG (ov rfl) (ov rfl) h_q3) ?_
  refine R_q _ rfl (v_add (ov rfl) (ov rfl) rfl) ?_
  refine R_q _ rfl (v_assign (ov rfl)) ?_
  refine R_nil ?_
  refine T_keep (kc 0 rfl <| kc 1 rfl <| kc 6 rfl <| kc 7 rfl <| kc 9 rfl <| kc 11 rfl <| kn) rfl ?_
  refine T_seq (T_reg ?_)
  refine R_q _ rfl (v_move (ov rfl)) ?_
  refine R_q _ rfl (v_and_ (ov rfl) (ov rfl)) ?_
  refine R_q _ rfl (v_assign (ov rfl)) ?_
  refine R_nil ?_
  refine T_keep (kc 0 rfl <| kc 1 rfl <| kc 6 rfl <| kc 7 rfl <| kc 9 rfl <| kc 11 rfl <| kc 12 rfl <| kn) rfl ?_
  refine T_seq (T_reg ?_)
  refine R_q _ rfl (v_move (ov rfl)) ?_
  obtain ⟨q4, h_q4, h⟩ := bnd h
  refine R_q _ rfl (v_shrG (ov rfl) (ov rfl) h_q4) ?_
  refine R_q _ rfl (v_assign (ov rfl)) ?_
  refine R_nil ?_
  refine T_keep (kc 0 rfl <| kc 1 rfl <| kc 6 rfl <| kc 7 rfl <| kc 9 rfl <| kc 12 rfl <| kc 13 rfl <| kn) rfl ?_
  refine T_seq (T_reg ?_)
  refine R_q _ rfl (v_move (ov rfl)) ?_
  refine R_q _ rfl (v_move (ov rfl)) ?_
  refine R_q _ rfl (v_move (ov rfl)) ?_
  refine R_q _ rfl (v_mul (ov rfl) (ov rfl) rfl) ?_
  refine R_q _ rfl (v_add (ov rfl) (ov rfl) rfl) ?_
  refine R_q _ rfl (v_assign (ov rfl)) ?_
  refine R_nil ?_
  refine T_keep (kc 0 rfl <| kc 1 rfl <| kc 7 rfl <| kc 9 rfl <| kc 12 rfl <| kc 13 rfl <| kn) rfl ?_
  refine T_seq (T_reg ?_)
  refine R_q _ rfl (v_move (ov rfl)) ?_
  refine R_q _ rfl (v_move (ov rfl)) ?_
  refine R_q _ rfl (v_mul (ov rfl) (ov rfl) rfl) ?_
  refine R_q _ rfl (v_move (ov rfl)) ?_
  refine R_q _ rfl (v_add (ov rfl) (ov rfl) rfl) ?_
  refine R_q _ rfl (v_move (ov rfl)) ?_
  obtain ⟨q5, h_q5, h⟩ := bnd h
  refine R_q _ rfl (v_shrG (ov rfl) (ov rfl) h_q5) ?_
  refine R_q _ rfl (v_add (ov rfl) (ov rfl) rfl) ?_
  refine R_q _ rfl (v_assign (ov rfl)) ?_
  refine R_nil ?_
  refine T_keep (kc 0 rfl <| kc 1 rfl <| kc 4 rfl <| kn) rfl ?_
  refine T_seq (T_reg ?_)
  refine R_q _ rfl (v_move (ov rfl)) ?_
  refine R_q _ rfl (v_move (ov rfl)) ?_
  refine R_q _ rfl (v_mul (ov rfl) (ov rfl) rfl) ?_
  refine R_q _ rfl (v_assign (ov rfl)) ?_
  refine R_nil ?_
  obtain rfl := rt (v := ((u64 ((u64 ((u64 (q * q2)) + q4)) + q5)), (u64 (x * y)))) h
  refine T_ret (retq ?_ (.two (.tmp rfl (Dat.view (.b rfl))) (.tmp rfl (Dat.view (.b rfl)))))
  rfl

theorem ok_ref5_product {a : Int} {b : Int} {r : ref5_wide} (h : ref5_product a b = some r) :
    CSpec Try.prog gl0 50 [.int .i64 a, .int .i64 b] (.agg [.bool r.neg, .int .u64 r.high, .int .u64 r.low]) := by
  unfold ref5_product at h
  replace h := bnd0 h
  refine spec_of (by kernel_rfl) Try.func50 rfl rfl ?_
  intro w0 A
  refine T_seq (T_reg ?_)
  refine R_w _ _ rfl (w_alloc (row := [_, _, _]) 0 rfl tZ81 rfl tZ_81) ?_
  refine R_nil ?_
  refine T_seq (T_reg ?_)
  refine R_q _ rfl (v_move (ov rfl)) ?_
  refine R_q _ rfl (v_lss (ov rfl) (ov rfl)) ?_
  refine R_q _ rfl (v_assign (ov rfl)) ?_
  refine R_nil ?_
  refine T_joinG id (t1 fun a2 => ⟨[(0, .int .i64 a2), (1, .int .i64 b), (4, .ptr 0 1 0 0), (5, .bool (decide (a < 0)))], [some ⟨81, [[.bool false, .int .u64 0, .int .u64 0]]⟩]⟩) h (fun h => ?_) (fun j h => ?_)
  · skip
    refine T_keep (kc 0 rfl <| kc 1 rfl <| kc 4 rfl <| kc 5 rfl <| kn) rfl ?_
    refine T_seq (T_reg ?_)
    refine R_q _ rfl (v_move (ov rfl)) ?_
    refine R_nil ?_
    refine T_if h rfl (fun b10 h => ?_) (fun b10 h => ?_)
    · skip
      refine T_keep (kc 0 rfl <| kc 1 rfl <| kc 4 rfl <| kc 5 rfl <| kn) rfl ?_
      refine T_reg ?_
      refine R_q _ rfl (v_move (ov rfl)) ?_
      refine R_q _ rfl (v_neg (ov rfl) rfl) ?_
      refine R_q _ rfl (v_assign (ov rfl)) ?_
      refine R_nil ?_
      exact ⟨(i64 (-a)), h, Ent.sel [some 0] (sd 0 rfl rfl <| sd 1 rfl rfl <| sr 4 rfl (.ptr _ _ _ rfl) <| sd 5 rfl rfl <| sn) (.cons rfl (ro1 (by exact tZ_81.symm) (rld rfl)) <| .nil) rfl rfl⟩
    · skip
      refine T_skip ?_
      exact ⟨a, h, Ent.sel [some 0] (sd 0 rfl rfl <| sd 1 rfl rfl <| sr 4 rfl (.ptr _ _ _ rfl) <| sd 5 rfl rfl <| sn) (.cons rfl (ro1 (by exact tZ_81.symm) (rld rfl)) <| .nil) rfl rfl⟩
  · skip
    obtain ⟨a2, rfl⟩ : ∃ x, x = j := ⟨_, rfl⟩
    replace h := t1i h
    refine t1T ?_
    refine T_seq (T_reg ?_)
    refine R_q _ rfl (v_move (ov rfl)) ?_
    refine R_q _ rfl (v_conv (ov rfl) tI3 tI71 rfl) ?_
    refine R_q _ rfl (v_move (ov rfl)) ?_
    refine R_q _ rfl (v_conv (ov rfl) tI3 tI71 rfl) ?_
    obtain ⟨y, h_y, h⟩ := bnd h
    refine R_q _ rfl (v_call (ok_bits_Mul64 h_y) (.cons (ov rfl) (.b rfl) <| .cons (ov rfl) (.b rfl) <| .nil)) ?_
    refine R_q _ rfl (v_move (ov rfl)) ?_
    refine R_q _ rfl (v_extract (ov rfl) rfl) ?_
    refine R_q _ rfl (v_extract (ov rfl) rfl) ?_
    refine R_q _ rfl (v_assign (ov rfl)) ?_
    refine R_q _ rfl (v_assign (ov rfl)) ?_
    refine R_nil ?_
    refine T_keep (kc 4 rfl <| kc 5 rfl <| kc 6 rfl <| kc 7 rfl <| kn) rfl ?_
    refine T_seq (T_reg ?_)
    refine R_q _ rfl (v_move (ov rfl)) ?_
    refine R_q _ rfl (v_move (ov rfl)) ?_
    refine R_q _ rfl (v_move (ov rfl)) ?_
    refine R_q _ rfl (v_build (ys := [_, _, _]) tPL81 tHA81 tZ81 (.cons (cvs (ov rfl) (cell1_b rfl)) <| .cons (cvs (ov rfl) (cell1_b rfl)) <| .cons (cvs (ov rfl) (cell1_b rfl)) <| .nil) rfl) ?_
    refine R_w _ _ rfl (w_store (ov rfl) (ov rfl) (cells_agg tA81 rfl) rfl rfl rfl (Nat.le_of_ble_eq_true rfl) (cell1_all rfl) rfl) ?_
    refine R_nil ?_
    obtain rfl := rt (v := (ref5_wide.mk (decide (a < 0)) y.1 y.2)) h
    refine T_ret (retq ?_ (.one (.agg rfl rfl rfl rfl tA81 rfl rfl (pwB rfl))))
    rfl

theorem ok_bits_Add64 {x y z : Int} {r : Int × Int} (h : bits_Add64 x y z = some r) :
    ESpec Try.prog 60 [.int .u64 x, .int .u64 y, .int .u64 z] (.tuple [.int .u64 r.1, .int .u64 r.2]) :=
  ok_add64 Try.func60 (by kernel_rfl) (by kernel_rfl) (by kernel_rfl) (by kernel_rfl) h

theorem ok_bits_Sub64 {x y z : Int} {r : Int × Int} (h : bits_Sub64 x y z = some r) :
    ESpec Try.prog 61 [.int .u64 x, .int .u64 y, .int .u64 z] (.tuple [.int .u64 r.1, .int .u64 r.2]) :=
  ok_sub64 Try.func61 (by kernel_rfl) (by kernel_rfl) (by kernel_rfl) (by kernel_rfl) h

theorem ok_ref5_add {a : ref5_wide} {b : ref5_wide} {r : ref5_wide} (h : ref5_add a b = some r) :
    CSpec Try.prog gl0 49 [.agg [.bool a.neg, .int .u64 a.high, .int .u64 a.low], .agg [.bool b.neg, .int .u64 b.high, .int .u64 b.low]] (.agg [.bool r.neg, .int .u64 r.high, .int .u64 r.low]) := by
  unfold ref5_add at h
  replace h := bnd0 h
  refine spec_of (by kernel_rfl) Try.func49 rfl rfl ?_
  intro w0 A
  refine T_seq (T_reg ?_)
  refine R_w _ _ rfl (w_box 0 rfl (ov rfl) tA81 rfl) ?_
  refine R_w _ _ rfl (w_box 1 rfl (ov rfl) tA81 rfl) ?_
  refine R_w _ _ rfl (w_alloc (row := [_, _, _]) 2 rfl tZ81 rfl tZ_81) ?_
  refine R_nil ?_
  refine T_seq ?_
  refine T_keep (kc 2 rfl <| kc 3 rfl <| kc 4 rfl <| kn) rfl ?_
  refine T_seq (T_reg ?_)
  refine R_q _ rfl (v_fieldP (ov rfl) rfl rfl tF81_0) ?_
  refine R_q _ rfl (v_loadS (ov rfl) rfl rfl rfl tS4 rfl) ?_
  refine R_q _ rfl (v_fieldP (ov rfl) rfl rfl tF81_0) ?_
  refine R_q _ rfl (v_loadS (ov rfl) rfl rfl rfl tS4 rfl) ?_
  refine R_q _ rfl (tBool_eq .eql (by simp) (ov rfl) (ov rfl) tB4) ?_
  refine R_nil ?_
  refine T_keep (kc 2 rfl <| kc 3 rfl <| kc 4 rfl <| kc 17 rfl <| kn) rfl ?_
  refine T_if h rfl (fun b17 h => ?_) (fun b17 h => ?_)
  · skip
    refine T_keep (kc 2 rfl <| kc 3 rfl <| kc 4 rfl <| kn) rfl ?_
    refine T_seq (T_reg ?_)
    refine R_q _ rfl (v_fieldP (ov rfl) rfl rfl tF81_2) ?_
    refine R_q _ rfl (v_loadS (ov rfl) rfl rfl rfl tS71 rfl) ?_
    refine R_q _ rfl (v_fieldP (ov rfl) rfl rfl tF81_2) ?_
    refine R_q _ rfl (v_loadS (ov rfl) rfl rfl rfl tS71 rfl) ?_
    obtain ⟨y, h_y, h⟩ := bnd h
    refine R_q _ rfl (v_callE (ok_bits_Add64 h_y) (.cons (ov rfl) (.b rfl) <| .cons (ov rfl) (.b rfl) <| .cons (ov rfl) (.b rfl) <| .nil)) ?_
    refine R_q _ rfl (v_move (ov rfl)) ?_
    refine R_q _ rfl (v_extract (ov rfl) rfl) ?_
    refine R_q _ rfl (v_extract (ov rfl) rfl) ?_
    refine R_q _ rfl (v_assign (ov rfl)) ?_
    refine R_q _ rfl (v_assign (ov rfl)) ?_
    refine R_nil ?_
    refine T_keep (kc 2 rfl <| kc 3 rfl <| kc 4 rfl <| kc 5 rfl <| kc 6 rfl <| kn) rfl ?_
    refine T_seq (T_reg ?_)
    refine R_q _ rfl (v_fieldP (ov rfl) rfl rfl tF81_1) ?_
    refine R_q _ rfl (v_loadS (ov rfl) rfl rfl rfl tS71 rfl) ?_
    refine R_q _ rfl (v_fieldP (ov rfl) rfl rfl tF81_1) ?_
    refine R_q _ rfl (v_loadS (ov rfl) rfl rfl rfl tS71 rfl) ?_
    refine R_q _ rfl (v_move (ov rfl)) ?_
    obtain ⟨y2, h_y2, h⟩ := bnd h
    refine R_q _ rfl (v_callE (ok_bits_Add64 h_y2) (.cons (ov rfl) (.b rfl) <| .cons (ov rfl) (.b rfl) <| .cons (ov rfl) (.b rfl) <| .nil)) ?_
    refine R_q _ rfl (v_move (ov rfl)) ?_
    refine R_q _ rfl (v_extract (ov rfl) rfl) ?_
    refine R_q _ rfl (v_extract (ov rfl) rfl) ?_
    refine R_q _ rfl (v_assign (ov rfl)) ?_
    refine R_q _ rfl (v_assign (ov rfl)) ?_
    refine R_nil ?_
    refine T_keep (kc 2 rfl <| kc 4 rfl <| kc 5 rfl <| kc 7 rfl <| kn) rfl ?_
    refine T_seq (T_reg ?_)
    refine R_q _ rfl (v_fieldP (ov rfl) rfl rfl tF81_0) ?_
    refine R_q _ rfl (v_loadS (ov rfl) rfl rfl rfl tS4 rfl) ?_
    refine R_q _ rfl (v_move (ov rfl)) ?_
    refine R_q _ rfl (v_move (ov rfl)) ?_
    refine R_q _ rfl (v_build (ys := [_, _, _]) tPL81 tHA81 tZ81 (.cons (cvs (ov rfl) (cell1_b rfl)) <| .cons (cvs (ov rfl) (cell1_b rfl)) <| .cons (cvs (ov rfl) (cell1_b rfl)) <| .nil) rfl) ?_
    refine R_w _ _ rfl (w_store (ov rfl) (ov rfl) (cells_agg tA81 rfl) rfl rfl rfl (Nat.le_of_ble_eq_true rfl) (cell1_all rfl) rfl) ?_
    refine R_nil ?_
    obtain rfl := rt (v := (ref5_wide.mk a.neg y2.1 y.1)) h
    refine T_ret (retq ?_ (.one (.agg rfl rfl rfl rfl tA81 rfl rfl (pwB rfl))))
    rfl
  · skip
    refine T_skip ?_
    refine T_joinG id (t2 fun a2 b2 => ⟨[(2, .ptr 0 1 0 0), (3, .ptr 1 1 0 0), (4, .ptr 2 1 0 0)], [some ⟨81, [[.bool a2.neg, .int .u64 a2.high, .int .u64 a2.low]]⟩, some ⟨81, [[.bool b2.neg, .int .u64 b2.high, .int .u64 b2.low]]⟩, some ⟨81, [[.bool false, .int .u64 0, .int .u64 0]]⟩]⟩) h (fun h => ?_) (fun j h => ?_)
    · skip
      refine T_keep (kc 2 rfl <| kc 3 rfl <| kc 4 rfl <| kn) rfl ?_
      refine T_seq (T_reg ?_)
      refine R_q _ rfl (v_fieldP (ov rfl) rfl rfl tF81_1) ?_
      refine R_q _ rfl (v_loadS (ov rfl) rfl rfl rfl tS71 rfl) ?_
      refine R_q _ rfl (v_fieldP (ov rfl) rfl rfl tF81_1) ?_
      refine R_q _ rfl (v_loadS (ov rfl) rfl rfl rfl tS71 rfl) ?_
      refine R_q _ rfl (v_lss (ov rfl) (ov rfl)) ?_
      refine R_q _ rfl (v_move (ov rfl)) ?_
      refine R_q _ rfl (.guarded ((decide (a.high < b.high)) == false) rfl rfl rfl rfl fun h => v_fieldP (ov rfl) rfl rfl tF81_1) ?_
      refine R_q _ rfl (.guarded ((decide (a.high < b.high)) == false) rfl rfl rfl rfl fun h => v_loadS (ow rfl h) rfl rfl rfl tS71 rfl) ?_
      refine R_q _ rfl (.guarded ((decide (a.high < b.high)) == false) rfl rfl rfl rfl fun h => v_fieldP (ov rfl) rfl rfl tF81_1) ?_
      refine R_q _ rfl (.guarded ((decide (a.high < b.high)) == false) rfl rfl rfl rfl fun h => v_loadS (ow rfl h) rfl rfl rfl tS71 rfl) ?_
      refine R_q _ rfl (.guarded ((decide (a.high < b.high)) == false) rfl rfl rfl rfl fun h => v_eql (ow rfl h) (ow rfl h)) ?_
      refine R_q _ rfl (.guarded ((decide (a.high < b.high)) == false) rfl rfl rfl rfl fun h => v_move (ow rfl h)) ?_
      refine R_q _ rfl (.guarded2 (((decide (a.high < b.high)) == false) && ((decide (a.high = b.high)) == true)) rfl rfl rfl rfl fun h => v_fieldP (ov rfl) rfl rfl tF81_2) ?_
      refine R_q _ rfl (.guarded2 (((decide (a.high < b.high)) == false) && ((decide (a.high = b.high)) == true)) rfl rfl rfl rfl fun h => v_loadS (ow rfl h) rfl rfl rfl tS71 rfl) ?_
      refine R_q _ rfl (.guarded2 (((decide (a.high < b.high)) == false) && ((decide (a.high = b.high)) == true)) rfl rfl rfl rfl fun h => v_fieldP (ov rfl) rfl rfl tF81_2) ?_
      refine R_q _ rfl (.guarded2 (((decide (a.high < b.high)) == false) && ((decide (a.high = b.high)) == true)) rfl rfl rfl rfl fun h => v_loadS (ow rfl h) rfl rfl rfl tS71 rfl) ?_
      refine R_q _ rfl (.guarded2 (((decide (a.high < b.high)) == false) && ((decide (a.high = b.high)) == true)) rfl rfl rfl rfl fun h => v_lss (ow rfl h) (ow rfl h)) ?_
      refine R_q _ rfl (.guarded ((decide (a.high < b.high)) == false) rfl rfl rfl rfl fun h => v_and (ow rfl h) (fun hp => ow rfl (gA h (gT hp)))) ?_
      refine R_q _ rfl (v_or (ov rfl) (fun hp => ow rfl (gF hp))) ?_
      refine R_nil ?_
      refine T_keep (kc 2 rfl <| kc 3 rfl <| kc 4 rfl <| kc 58 rfl <| kn) rfl ?_
      refine T_if h rfl (fun b58 h => ?_) (fun b58 h => ?_)
      · skip
        refine T_keep (kc 2 rfl <| kc 3 rfl <| kc 4 rfl <| kn) rfl ?_
        refine T_reg ?_
        refine R_q _ rfl (v_loadA (ov rfl) rfl rfl rfl tA81 rfl rfl) ?_
        refine R_q _ rfl (v_loadA (ov rfl) rfl rfl rfl tA81 rfl rfl) ?_
        refine R_w _ _ rfl (w_store (ov rfl) (ov rfl) (cells_agg tA81 rfl) rfl rfl rfl (Nat.le_of_ble_eq_true rfl) (cell1_all rfl) rfl) ?_
        refine R_w _ _ rfl (w_store (ov rfl) (ov rfl) (cells_agg tA81 rfl) rfl rfl rfl (Nat.le_of_ble_eq_true rfl) (cell1_all rfl) rfl) ?_
        refine R_nil ?_
        exact ⟨(b, a), h, Ent.sel [some 0, some 1, some 2] (sr 2 rfl (.ptr _ _ _ rfl) <| sr 3 rfl (.ptr _ _ _ rfl) <| sr 4 rfl (.ptr _ _ _ rfl) <| sn) (.cons rfl (ro1 (by exact tZ_81.symm) (rld rfl)) <| .cons rfl (ro1 (by exact tZ_81.symm) (rld rfl)) <| .cons rfl (ro1 (by exact tZ_81.symm) (rld rfl)) <| .nil) rfl rfl⟩
      · skip
        refine T_skip ?_
        exact ⟨(a, b), h, Ent.sel [some 0, some 1, some 2] (sr 2 rfl (.ptr _ _ _ rfl) <| sr 3 rfl (.ptr _ _ _ rfl) <| sr 4 rfl (.ptr _ _ _ rfl) <| sn) (.cons rfl (ro1 (by exact tZ_81.symm) (rld rfl)) <| .cons rfl (ro1 (by exact tZ_81.symm) (rld rfl)) <| .cons rfl (ro1 (by exact tZ_81.symm) (rld rfl)) <| .nil) rfl rfl⟩
    · skip
      obtain ⟨a2, b2⟩ := j
      replace h := t2i h
      refine t2T ?_
      refine T_seq (T_reg ?_)
      refine R_q _ rfl (v_fieldP (ov rfl) rfl rfl tF81_2) ?_
      refine R_q _ rfl (v_loadS (ov rfl) rfl rfl rfl tS71 rfl) ?_
      refine R_q _ rfl (v_fieldP (ov rfl) rfl rfl tF81_2) ?_
      refine R_q _ rfl (v_loadS (ov rfl) rfl rfl rfl tS71 rfl) ?_
      obtain ⟨y3, h_y3, h⟩ := bnd h
      refine R_q _ rfl (v_callE (ok_bits_Sub64 h_y3) (.cons (ov rfl) (.b rfl) <| .cons (ov rfl) (.b rfl) <| .cons (ov rfl) (.b rfl) <| .nil)) ?_
      refine R_q _ rfl (v_move (ov rfl)) ?_
      refine R_q _ rfl (v_extract (ov rfl) rfl) ?_
      refine R_q _ rfl (v_extract (ov rfl) rfl) ?_
      refine R_q _ rfl (v_assign (ov rfl)) ?_
      refine R_q _ rfl (v_assign (ov rfl)) ?_
      refine R_nil ?_
      refine T_keep (kc 2 rfl <| kc 3 rfl <| kc 4 rfl <| kc 9 rfl <| kc 10 rfl <| kn) rfl ?_
      refine T_seq (T_reg ?_)
      refine R_q _ rfl (v_fieldP (ov rfl) rfl rfl tF81_1) ?_
      refine R_q _ rfl (v_loadS (ov rfl) rfl rfl rfl tS71 rfl) ?_
      refine R_q _ rfl (v_fieldP (ov rfl) rfl rfl tF81_1) ?_
      refine R_q _ rfl (v_loadS (ov rfl) rfl rfl rfl tS71 rfl) ?_
      refine R_q _ rfl (v_move (ov rfl)) ?_
      obtain ⟨y4, h_y4, h⟩ := bnd h
      refine R_q _ rfl (v_callE (ok_bits_Sub64 h_y4) (.cons (ov rfl) (.b rfl) <| .cons (ov rfl) (.b rfl) <| .cons (ov rfl) (.b rfl) <| .nil)) ?_
      refine R_q _ rfl (v_move (ov rfl)) ?_
      refine R_q _ rfl (v_extract (ov rfl) rfl) ?_
      refine R_q _ rfl (v_extract (ov rfl) rfl) ?_
      refine R_q _ rfl (v_assign (ov rfl)) ?_
      refine R_q _ rfl (v_assign (ov rfl)) ?_
      refine R_nil ?_
      refine T_keep (kc 2 rfl <| kc 4 rfl <| kc 9 rfl <| kc 11 rfl <| kn) rfl ?_
      refine T_seq (T_reg ?_)
      refine R_q _ rfl (v_fieldP (ov rfl) rfl rfl tF81_0) ?_
      refine R_q _ rfl (v_loadS (ov rfl) rfl rfl rfl tS4 rfl) ?_
      refine R_q _ rfl (v_move (ov rfl)) ?_
      refine R_q _ rfl (v_move (ov rfl)) ?_
      refine R_q _ rfl (v_build (ys := [_, _, _]) tPL81 tHA81 tZ81 (.cons (cvs (ov rfl) (cell1_b rfl)) <| .cons (cvs (ov rfl) (cell1_b rfl)) <| .cons (cvs (ov rfl) (cell1_b rfl)) <| .nil) rfl) ?_
      refine R_w _ _ rfl (w_store (ov rfl) (ov rfl) (cells_agg tA81 rfl) rfl rfl rfl (Nat.le_of_ble_eq_true rfl) (cell1_all rfl) rfl) ?_
      refine R_nil ?_
      obtain rfl := rt (v := (ref5_wide.mk a2.neg y4.1 y3.1)) h
      refine T_ret (retq ?_ (.one (.agg rfl rfl rfl rfl tA81 rfl rfl (pwB rfl))))
      rfl

theorem ok_bits_Len64 {x : Int} {r : Int} (h : bits_Len64 x = some r) :
    CSpec Try.prog gl0 70 [.int .u64 x] (.int .i64 r) := by
  unfold bits_Len64 at h
  replace h := bnd0 h
  refine spec_of (by kernel_rfl) Try.func70 rfl rfl ?_
  intro w0 A
  refine T_seq (T_reg ?_)
  refine R_q _ rfl (v_assign (ov rfl)) ?_
  refine R_nil ?_
  refine T_joinG id (t2 fun x2 n => ⟨[(0, .int .u64 x2), (2, .int .i64 n)], []⟩) h (fun h => ?_) (fun j h => ?_)
  · skip
    refine T_seq (T_reg ?_)
    refine R_q _ rfl (v_move (ov rfl)) ?_
    refine R_q _ rfl (v_geq (ov rfl) (ov rfl)) ?_
    refine R_nil ?_
    refine T_keep (kc 0 rfl <| kc 2 rfl <| kc 4 rfl <| kn) rfl ?_
    refine T_if h rfl (fun b4 h => ?_) (fun b4 h => ?_)
    · skip
      refine T_keep (kc 0 rfl <| kn) rfl ?_
      refine T_seq (T_reg ?_)
      refine R_q _ rfl (v_move (ov rfl)) ?_
      obtain ⟨q, h_q, h⟩ := bnd h
      refine R_q _ rfl (v_shrG (ov rfl) (ov rfl) h_q) ?_
      refine R_q _ rfl (v_assign (ov rfl)) ?_
      refine R_nil ?_
      refine T_keep (kc 0 rfl <| kn) rfl ?_
      refine T_reg ?_
      refine R_q _ rfl (v_assign (ov rfl)) ?_
      refine R_nil ?_
      exact ⟨(q, 32), h, Ent.sel [] (sd 0 rfl rfl <| sd 2 rfl rfl <| sn) (.nil) rfl rfl⟩
    · skip
      refine T_skip ?_
      exact ⟨(x, 0), h, Ent.sel [] (sd 0 rfl rfl <| sd 2 rfl rfl <| sn) (.nil) rfl rfl⟩
  · skip
    obtain ⟨x2, n⟩ := j
    replace h := t2i h
    refine t2T ?_
    refine T_joinG id (t2 fun x3 n2 => ⟨[(0, .int .u64 x3), (2, .int .i64 n2)], []⟩) h (fun h => ?_) (fun j h => ?_)
    · skip
      refine T_seq (T_reg ?_)
      refine R_q _ rfl (v_move (ov rfl)) ?_
      refine R_q _ rfl (v_geq (ov rfl) (ov rfl)) ?_
      refine R_nil ?_
      refine T_keep (kc 0 rfl <| kc 2 rfl <| kc 8 rfl <| kn) rfl ?_
      refine T_if h rfl (fun b8 h => ?_) (fun b8 h => ?_)
      · skip
        refine T_keep (kc 0 rfl <| kc 2 rfl <| kn) rfl ?_
        refine T_seq (T_reg ?_)
        refine R_q _ rfl (v_move (ov rfl)) ?_
        obtain ⟨q2, h_q2, h⟩ := bnd h
        refine R_q _ rfl (v_shrG (ov rfl) (ov rfl) h_q2) ?_
        refine R_q _ rfl (v_assign (ov rfl)) ?_
        refine R_nil ?_
        refine T_keep (kc 0 rfl <| kc 2 rfl <| kn) rfl ?_
        refine T_reg ?_
        refine R_q _ rfl (v_move (ov rfl)) ?_
        refine R_q _ rfl (v_add (ov rfl) (ov rfl) rfl) ?_
        refine R_q _ rfl (v_assign (ov rfl)) ?_
        refine R_nil ?_
        exact ⟨(q2, (i64 (n + 16))), h, Ent.sel [] (sd 0 rfl rfl <| sd 2 rfl rfl <| sn) (.nil) rfl rfl⟩
      · skip
        refine T_skip ?_
        exact ⟨(x2, n), h, Ent.sel [] (sd 0 rfl rfl <| sd 2 rfl rfl <| sn) (.nil) rfl rfl⟩
    · skip
      obtain ⟨x3, n2⟩ := j
      replace h := t2i h
      refine t2T ?_
      refine T_joinG id (t2 fun x4 n3 => ⟨[(0, .int .u64 x4), (2, .int .i64 n3)], []⟩) h (fun h => ?_) (fun j h => ?_)
      · skip
        refine T_seq (T_reg ?_)
        refine R_q _ rfl (v_move (ov rfl)) ?_
        refine R_q _ rfl (v_geq (ov rfl) (ov rfl)) ?_
        refine R_nil ?_
        refine T_keep (kc 0 rfl <| kc 2 rfl <| kc 14 rfl <| kn) rfl ?_
        refine T_if h rfl (fun b14 h => ?_) (fun b14 h => ?_)
        · skip
          refine T_keep (kc 0 rfl <| kc 2 rfl <| kn) rfl ?_
          refine T_seq (T_reg ?_)
          refine R_q _ rfl (v_move (ov rfl)) ?_
          obtain ⟨q3, h_q3, h⟩ := bnd h
          refine R_q _ rfl (v_shrG (ov rfl) (ov rfl) h_q3) ?_
          refine R_q _ rfl (v_assign (ov rfl)) ?_
          refine R_nil ?_
          refine T_keep (kc 0 rfl <| kc 2 rfl <| kn) rfl ?_
          refine T_reg ?_
          refine R_q _ rfl (v_move (ov rfl)) ?_
          refine R_q _ rfl (v_add (ov rfl) (ov rfl) rfl) ?_
          refine R_q _ rfl (v_assign (ov rfl)) ?_
          refine R_nil ?_
          exact ⟨(q3, (i64 (n2 + 8))), h, Ent.sel [] (sd 0 rfl rfl <| sd 2 rfl rfl <| sn) (.nil) rfl rfl⟩
        · skip
          refine T_skip ?_
          exact ⟨(x3, n2), h, Ent.sel [] (sd 0 rfl rfl <| sd 2 rfl rfl <| sn) (.nil) rfl rfl⟩
      · skip
        obtain ⟨x4, n3⟩ := j
        replace h := t2i h
        refine t2T ?_
        refine T_seq (T_reg ?_)
        refine R_q _ rfl (v_move (ov rfl)) ?_
        refine R_q _ rfl (v_move (ov rfl)) ?_
        refine R_q _ rfl (v_conv (ov rfl) tI71 tI5 rfl) ?_
        obtain ⟨b, h_b, h⟩ := bnd h
        refine R_q _ rfl (v_idxStr (ov rfl) (ov rfl) tStr9 h_b) ?_
        refine R_q _ rfl (v_conv (ov rfl) tI5 tI3 rfl) ?_
        refine R_q _ rfl (v_add (ov rfl) (ov rfl) rfl) ?_
        refine R_q _ rfl (v_assign (ov rfl)) ?_
        refine R_nil ?_
        obtain rfl := rt (v := (i64 (n3 + (i64 b)))) h
        refine T_ret (retq ?_ (.one (.tmp rfl (Dat.view (.b rfl)))))
        rfl

theorem ok_bits_LeadingZeros64 {x : Int} {r : Int} (h : bits_LeadingZeros64 x = some r) :
    CSpec Try.prog gl0 68 [.int .u64 x] (.int .i64 r) := by
  unfold bits_LeadingZeros64 at h
  replace h := bnd0 h
  refine spec_of (by kernel_rfl) Try.func68 rfl rfl ?_
  intro w0 A
  refine T_seq (T_reg ?_)
  refine R_q _ rfl (v_assign (ov rfl)) ?_
  refine R_nil ?_
  refine T_seq (T_reg ?_)
  refine R_q _ rfl (v_move (ov rfl)) ?_
  obtain ⟨y, h_y, h⟩ := bnd h
  refine R_q _ rfl (v_call (ok_bits_Len64 h_y) (.cons (ov rfl) (.b rfl) <| .nil)) ?_
  refine R_q _ rfl (v_sub (ov rfl) (ov rfl) rfl) ?_
  refine R_q _ rfl (v_assign (ov rfl)) ?_
  refine R_nil ?_
  obtain rfl := rt (v := (i64 (64 - y))) h
  refine T_ret (retq ?_ (.one (.tmp rfl (Dat.view (.b rfl)))))
  rfl

theorem ok_bits_Div64 {hi : Int} {lo : Int} {y : Int} {r : Int × Int} (h : bits_Div64 hi lo y = some r) :
    CSpec Try.prog gl0 63 [.int .u64 hi, .int .u64 lo, .int .u64 y] (.tuple [.int .u64 r.1, .int .u64 r.2]) := by
  unfold bits_Div64 at h
  replace h := bnd0 h
  refine spec_of (by kernel_rfl) Try.func63 rfl rfl ?_
  intro w0 A
  refine T_seq (T_reg ?_)
  refine R_q _ rfl (v_assign (ov rfl)) ?_
  refine R_q _ rfl (v_assign (ov rfl)) ?_
  refine R_nil ?_
  refine T_seq ?_
  refine T_keep (kc 0 rfl <| kc 1 rfl <| kc 2 rfl <| kn) rfl ?_
  refine T_seq (T_reg ?_)
  refine R_q _ rfl (v_move (ov rfl)) ?_
  refine R_q _ rfl (v_eql (ov rfl) (ov rfl)) ?_
  refine R_nil ?_
  refine T_keep (kc 0 rfl <| kc 1 rfl <| kc 2 rfl <| kc 20 rfl <| kn) rfl ?_
  refine T_if h rfl (fun b20 h => ?_) (fun b20 h => ?_)
  · skip
    exact (noneB h).elim
  · skip
    refine T_skip ?_
    refine T_seq ?_
    refine T_keep (kc 0 rfl <| kc 1 rfl <| kc 2 rfl <| kn) rfl ?_
    refine T_seq (T_reg ?_)
    refine R_q _ rfl (v_move (ov rfl)) ?_
    refine R_q _ rfl (v_move (ov rfl)) ?_
    refine R_q _ rfl (v_leq (ov rfl) (ov rfl)) ?_
    refine R_nil ?_
    refine T_keep (kc 0 rfl <| kc 1 rfl <| kc 2 rfl <| kc 24 rfl <| kn) rfl ?_
    refine T_if h rfl (fun b24 h => ?_) (fun b24 h => ?_)
    · skip
      exact (noneB h).elim
    · skip
      refine T_skip ?_
      refine T_seq ?_
      refine T_keep (kc 0 rfl <| kc 1 rfl <| kc 2 rfl <| kn) rfl ?_
      refine T_seq (T_reg ?_)
      refine R_q _ rfl (v_move (ov rfl)) ?_
      refine R_q _ rfl (v_eql (ov rfl) (ov rfl)) ?_
      refine R_nil ?_
      refine T_keep (kc 0 rfl <| kc 1 rfl <| kc 2 rfl <| kc 27 rfl <| kn) rfl ?_
      refine T_if h rfl (fun b27 h => ?_) (fun b27 h => ?_)
      · skip
        refine T_keep (kc 1 rfl <| kc 2 rfl <| kn) rfl ?_
        refine T_seq (T_draw (cw := md0) (by kernel_rfl) ?_)
        refine D_free 0 _ rfl (by kernel_rfl) rfl rfl (fun hp' => v_move (ov rfl)) ?_
        refine D_free 1 _ rfl (by kernel_rfl) rfl rfl (fun hp' => v_move (ov rfl)) ?_
        obtain ⟨q, h_q, h⟩ := bnd h
        refine D_free 2 _ rfl (by kernel_rfl) rfl rfl (fun hp' => v_quoG (ov rfl) (ov rfl) h_q) ?_
        refine D_free 3 _ rfl (by kernel_rfl) rfl rfl (fun hp' => v_move (ov rfl)) ?_
        refine D_free 4 _ rfl (by kernel_rfl) rfl rfl (fun hp' => v_move (ov rfl)) ?_
        obtain ⟨q2, h_q2, h⟩ := bnd h
        refine D_free 5 _ rfl (by kernel_rfl) rfl rfl (fun hp' => v_remG (ov rfl) (ov rfl) h_q2) ?_
        refine D_free 6 _ rfl (by kernel_rfl) rfl rfl (fun hp' => v_assign (ov rfl)) ?_
        refine D_free 7 _ rfl (by kernel_rfl) rfl rfl (fun hp' => v_assign (ov rfl)) ?_
        refine D_done (by kernel_rfl) ?_
        obtain rfl := rt (v := (q, q2)) h
        refine T_ret (retq ?_ (.two (.tmp rfl (Dat.view (.b rfl))) (.tmp rfl (Dat.view (.b rfl)))))
        rfl
      · skip
        refine T_skip ?_
        refine T_keep (kc 0 rfl <| kc 1 rfl <| kc 2 rfl <| kn) rfl ?_
        refine T_seq (T_reg ?_)
        refine R_q _ rfl (v_move (ov rfl)) ?_
        obtain ⟨y2, h_y2, h⟩ := bnd h
        refine R_q _ rfl (v_call (ok_bits_LeadingZeros64 h_y2) (.cons (ov rfl) (.b rfl) <| .nil)) ?_
        refine R_q _ rfl (v_conv (ov rfl) tI3 tI89 rfl) ?_
        refine R_q _ rfl (v_assign (ov rfl)) ?_
        refine R_nil ?_
        refine T_keep (kc 0 rfl <| kc 1 rfl <| kc 2 rfl <| kc 8 rfl <| kn) rfl ?_
        refine T_seq (T_reg ?_)
        refine R_q _ rfl (v_move (ov rfl)) ?_
        refine R_q _ rfl (v_move (ov rfl)) ?_
        obtain ⟨q3, h_q3, h⟩ := bnd h
        refine R_q _ rfl (v_shlG (ov rfl) (ov rfl) h_q3) ?_
        refine R_q _ rfl (v_assign (ov rfl)) ?_
        refine R_nil ?_
        refine T_keep (kc 0 rfl <| kc 1 rfl <| kc 2 rfl <| kc 8 rfl <| kn) rfl ?_
        refine T_seq (T_reg ?_)
        refine R_q _ rfl (v_move (ov rfl)) ?_
        obtain ⟨q4, h_q4, h⟩ := bnd h
        refine R_q _ rfl (v_shrG (ov rfl) (ov rfl) h_q4) ?_
        refine R_q _ rfl (v_assign (ov rfl)) ?_
        refine R_nil ?_
        refine T_keep (kc 0 rfl <| kc 1 rfl <| kc 2 rfl <| kc 8 rfl <| kc 9 rfl <| kn) rfl ?_
        refine T_seq (T_reg ?_)
        refine R_q _ rfl (v_move (ov rfl)) ?_
        refine R_q _ rfl (v_and_ (ov rfl) (ov rfl)) ?_
        refine R_q _ rfl (v_assign (ov rfl)) ?_
        refine R_nil ?_
        refine T_keep (kc 0 rfl <| kc 1 rfl <| kc 2 rfl <| kc 8 rfl <| kc 9 rfl <| kc 10 rfl <| kn) rfl ?_
        refine T_seq (T_reg ?_)
        refine R_q _ rfl (v_move (ov rfl)) ?_
        refine R_q _ rfl (v_move (ov rfl)) ?_
        obtain ⟨q5, h_q5, h⟩ := bnd h
        refine R_q _ rfl (v_shlG (ov rfl) (ov rfl) h_q5) ?_
        refine R_q _ rfl (v_move (ov rfl)) ?_
        refine R_q _ rfl (v_move (ov rfl)) ?_
        refine R_q _ rfl (v_sub (ov rfl) (ov rfl) rfl) ?_
        obtain ⟨q6, h_q6, h⟩ := bnd h
        refine R_q _ rfl (v_shrG (ov rfl) (ov rfl) h_q6) ?_
        refine R_q _ rfl (v_or_ (ov rfl) (ov rfl)) ?_
        refine R_q _ rfl (v_assign (ov rfl)) ?_
        refine R_nil ?_
        refine T_keep (kc 1 rfl <| kc 2 rfl <| kc 8 rfl <| kc 9 rfl <| kc 10 rfl <| kc 11 rfl <| kn) rfl ?_
        refine T_seq (T_reg ?_)
        refine R_q _ rfl (v_move (ov rfl)) ?_
        refine R_q _ rfl (v_move (ov rfl)) ?_
        obtain ⟨q7, h_q7, h⟩ := bnd h
        refine R_q _ rfl (v_shlG (ov rfl) (ov rfl) h_q7) ?_
        refine R_q _ rfl (v_assign (ov rfl)) ?_
        refine R_nil ?_
        refine T_keep (kc 2 rfl <| kc 8 rfl <| kc 9 rfl <| kc 10 rfl <| kc 11 rfl <| kc 12 rfl <| kn) rfl ?_
        refine T_seq (T_reg ?_)
        refine R_q _ rfl (v_move (ov rfl)) ?_
        obtain ⟨q8, h_q8, h⟩ := bnd h
        refine R_q _ rfl (v_shrG (ov rfl) (ov rfl) h_q8) ?_
        refine R_q _ rfl (v_assign (ov rfl)) ?_
        refine R_nil ?_
        refine T_keep (kc 2 rfl <| kc 8 rfl <| kc 9 rfl <| kc 10 rfl <| kc 11 rfl <| kc 12 rfl <| kc 13 rfl <| kn) rfl ?_
        refine T_seq (T_reg ?_)
        refine R_q _ rfl (v_move (ov rfl)) ?_
        refine R_q _ rfl (v_and_ (ov rfl) (ov rfl)) ?_
        refine R_q _ rfl (v_assign (ov rfl)) ?_
        refine R_nil ?_
        refine T_keep (kc 2 rfl <| kc 8 rfl <| kc 9 rfl <| kc 10 rfl <| kc 11 rfl <| kc 13 rfl <| kc 14 rfl <| kn) rfl ?_
        refine T_seq (T_reg ?_)
        refine R_q _ rfl (v_move (ov rfl)) ?_
        refine R_q _ rfl (v_move (ov rfl)) ?_
        obtain ⟨q9, h_q9, h⟩ := bnd h
        refine R_q _ rfl (v_quoG (ov rfl) (ov rfl) h_q9) ?_
        refine R_q _ rfl (v_assign (ov rfl)) ?_
        refine R_nil ?_
        refine T_keep (kc 2 rfl <| kc 8 rfl <| kc 9 rfl <| kc 10 rfl <| kc 11 rfl <| kc 13 rfl <| kc 14 rfl <| kc 15 rfl <| kn) rfl ?_
        refine T_seq (T_reg ?_)
        refine R_q _ rfl (v_move (ov rfl)) ?_
        refine R_q _ rfl (v_move (ov rfl)) ?_
        refine R_q _ rfl (v_move (ov rfl)) ?_
        refine R_q _ rfl (v_mul (ov rfl) (ov rfl) rfl) ?_
        refine R_q _ rfl (v_sub (ov rfl) (ov rfl) rfl) ?_
        refine R_q _ rfl (v_assign (ov rfl)) ?_
        refine R_nil ?_
        refine T_joinG id (t1 fun q1 => ⟨[(2, .int .u64 q3), (8, .int .u64 (u64 y2)), (9, .int .u64 q4), (10, .int .u64 (band .u64 q3 4294967295)), (11, .int .u64 (bor .u64 q5 q6)), (13, .int .u64 q8), (14, .int .u64 (band .u64 q7 4294967295)), (15, .int .u64 q1)], []⟩) h (fun h => ?_) (fun j h => ?_)
        · skip
          refine T_block ?_
          obtain ⟨r1, hl1, ho1⟩ := bndL h
          refine T_loopG _ (t2 fun q12 rhat => ⟨[(2, .int .u64 q3), (8, .int .u64 (u64 y2)), (9, .int .u64 q4), (10, .int .u64 (band .u64 q3 4294967295)), (11, .int .u64 (bor .u64 q5 q6)), (13, .int .u64 q8), (14, .int .u64 (band .u64 q7 4294967295)), (15, .int .u64 q12), (16, .int .u64 rhat)], []⟩) _ hl1 (Ent.sel [] (sd 2 rfl rfl <| sd 8 rfl rfl <| sd 9 rfl rfl <| sd 10 rfl rfl <| sd 11 rfl rfl <| sd 13 rfl rfl <| sd 14 rfl rfl <| sd 15 rfl rfl <| sd 16 rfl rfl <| sn) (.nil) rfl rfl) (fun n1 s1 h => ?_)
          obtain ⟨q12, rhat⟩ := s1
          replace h := t2i h
          refine t2T ?_
          unfold bits_Div64_L1 at h
          refine T_seq ?_
          refine T_seq (T_reg ?_)
          refine R_q _ rfl (v_move (ov rfl)) ?_
          refine R_q _ rfl (v_geq (ov rfl) (ov rfl)) ?_
          refine R_q _ rfl (v_move (ov rfl)) ?_
          refine R_q _ rfl (.guarded ((decide (4294967296 ≤ q12)) == false) rfl rfl rfl rfl fun h => v_move (ov rfl)) ?_
          refine R_q _ rfl (.guarded ((decide (4294967296 ≤ q12)) == false) rfl rfl rfl rfl fun h => v_move (ov rfl)) ?_
          refine R_q _ rfl (.guarded ((decide (4294967296 ≤ q12)) == false) rfl rfl rfl rfl fun h => v_mul (ow rfl h) (ow rfl h) rfl) ?_
          refine R_q _ rfl (.guarded ((decide (4294967296 ≤ q12)) == false) rfl rfl rfl rfl fun h => v_move (ov rfl)) ?_
          refine R_q _ rfl (.guarded ((decide (4294967296 ≤ q12)) == false) rfl rfl rfl rfl fun h => v_mul (ov rfl) (ow rfl h) rfl) ?_
          refine R_q _ rfl (.guarded ((decide (4294967296 ≤ q12)) == false) rfl rfl rfl rfl fun h => v_move (ov rfl)) ?_
          refine R_q _ rfl (.guarded ((decide (4294967296 ≤ q12)) == false) rfl rfl rfl rfl fun h => v_add (ow rfl h) (ow rfl h) rfl) ?_
          refine R_q _ rfl (.guarded ((decide (4294967296 ≤ q12)) == false) rfl rfl rfl rfl fun h => v_gtr (ow rfl h) (ow rfl h)) ?_
          refine R_q _ rfl (v_or (ov rfl) (fun hp => ow rfl (gF hp))) ?_
          refine R_nil ?_
          refine T_keep (kc 2 rfl <| kc 8 rfl <| kc 9 rfl <| kc 10 rfl <| kc 11 rfl <| kc 13 rfl <| kc 14 rfl <| kc 15 rfl <| kc 16 rfl <| kc 78 rfl <| kn) rfl ?_
          refine T_if h rfl (fun b78 h => ?_) (fun b78 h => ?_)
          · skip
            refine T_skip ?_
            refine T_block ?_
            refine T_keep (kc 2 rfl <| kc 8 rfl <| kc 9 rfl <| kc 10 rfl <| kc 11 rfl <| kc 13 rfl <| kc 14 rfl <| kc 15 rfl <| kc 16 rfl <| kn) rfl ?_
            refine T_seq (T_reg ?_)
            refine R_q _ rfl (v_move (ov rfl)) ?_
            refine R_q _ rfl (v_sub (ov rfl) (ov rfl) rfl) ?_
            refine R_q _ rfl (v_assign (ov rfl)) ?_
            refine R_nil ?_
            refine T_keep (kc 2 rfl <| kc 8 rfl <| kc 9 rfl <| kc 10 rfl <| kc 11 rfl <| kc 13 rfl <| kc 14 rfl <| kc 15 rfl <| kc 16 rfl <| kn) rfl ?_
            refine T_seq (T_reg ?_)
            refine R_q _ rfl (v_move (ov rfl)) ?_
            refine R_q _ rfl (v_move (ov rfl)) ?_
            refine R_q _ rfl (v_add (ov rfl) (ov rfl) rfl) ?_
            refine R_q _ rfl (v_assign (ov rfl)) ?_
            refine R_nil ?_
            refine T_keep (kc 2 rfl <| kc 8 rfl <| kc 9 rfl <| kc 10 rfl <| kc 11 rfl <| kc 13 rfl <| kc 14 rfl <| kc 15 rfl <| kc 16 rfl <| kn) rfl ?_
            refine T_seq (T_reg ?_)
            refine R_q _ rfl (v_move (ov rfl)) ?_
            refine R_q _ rfl (v_geq (ov rfl) (ov rfl)) ?_
            refine R_nil ?_
            refine T_keep (kc 2 rfl <| kc 8 rfl <| kc 9 rfl <| kc 10 rfl <| kc 11 rfl <| kc 13 rfl <| kc 14 rfl <| kc 15 rfl <| kc 16 rfl <| kc 85 rfl <| kn) rfl ?_
            refine T_if h rfl (fun b85 h => ?_) (fun b85 h => ?_)
            · skip
              refine T_exit ?_
              rw [lx h] at ho1
              replace h := ho1
              exact ⟨(u64 (q12 - 1)), h, Ent.sel [] (sd 2 rfl rfl <| sd 8 rfl rfl <| sd 9 rfl rfl <| sd 10 rfl rfl <| sd 11 rfl rfl <| sd 13 rfl rfl <| sd 14 rfl rfl <| sd 15 rfl rfl <| sn) (.nil) rfl rfl⟩
            · skip
              refine T_skip ?_
              exact ⟨((u64 (q12 - 1)), (u64 (rhat + q4))), h, Ent.sel [] (sd 2 rfl rfl <| sd 8 rfl rfl <| sd 9 rfl rfl <| sd 10 rfl rfl <| sd 11 rfl rfl <| sd 13 rfl rfl <| sd 14 rfl rfl <| sd 15 rfl rfl <| sd 16 rfl rfl <| sn) (.nil) rfl rfl⟩
          · skip
            refine T_exit ?_
            rw [lx h] at ho1
            replace h := ho1
            exact ⟨q12, h, Ent.sel [] (sd 2 rfl rfl <| sd 8 rfl rfl <| sd 9 rfl rfl <| sd 10 rfl rfl <| sd 11 rfl rfl <| sd 13 rfl rfl <| sd 14 rfl rfl <| sd 15 rfl rfl <| sn) (.nil) rfl rfl⟩
        · skip
          obtain ⟨q1, rfl⟩ : ∃ x, x = j := ⟨_, rfl⟩
          replace h := t1i h
          refine t1T ?_
          refine T_seq (T_reg ?_)
          refine R_q _ rfl (v_move (ov rfl)) ?_
          refine R_q _ rfl (v_mul (ov rfl) (ov rfl) rfl) ?_
          refine R_q _ rfl (v_move (ov rfl)) ?_
          refine R_q _ rfl (v_add (ov rfl) (ov rfl) rfl) ?_
          refine R_q _ rfl (v_move (ov rfl)) ?_
          refine R_q _ rfl (v_move (ov rfl)) ?_
          refine R_q _ rfl (v_mul (ov rfl) (ov rfl) rfl) ?_
          refine R_q _ rfl (v_sub (ov rfl) (ov rfl) rfl) ?_
          refine R_q _ rfl (v_assign (ov rfl)) ?_
          refine R_nil ?_
          refine T_keep (kc 2 rfl <| kc 8 rfl <| kc 9 rfl <| kc 10 rfl <| kc 14 rfl <| kc 15 rfl <| kc 17 rfl <| kn) rfl ?_
          refine T_seq (T_reg ?_)
          refine R_q _ rfl (v_move (ov rfl)) ?_
          refine R_q _ rfl (v_move (ov rfl)) ?_
          obtain ⟨q10, h_q10, h⟩ := bnd h
          refine R_q _ rfl (v_quoG (ov rfl) (ov rfl) h_q10) ?_
          refine R_q _ rfl (v_assign (ov rfl)) ?_
          refine R_nil ?_
          refine T_keep (kc 2 rfl <| kc 8 rfl <| kc 9 rfl <| kc 10 rfl <| kc 14 rfl <| kc 15 rfl <| kc 17 rfl <| kc 18 rfl <| kn) rfl ?_
          refine T_seq (T_reg ?_)
          refine R_q _ rfl (v_move (ov rfl)) ?_
          refine R_q _ rfl (v_move (ov rfl)) ?_
          refine R_q _ rfl (v_move (ov rfl)) ?_
          refine R_q _ rfl (v_mul (ov rfl) (ov rfl) rfl) ?_
          refine R_q _ rfl (v_sub (ov rfl) (ov rfl) rfl) ?_
          refine R_q _ rfl (v_assign (ov rfl)) ?_
          refine R_nil ?_
          refine T_joinG id (t1 fun q0 => ⟨[(2, .int .u64 q3), (8, .int .u64 (u64 y2)), (14, .int .u64 (band .u64 q7 4294967295)), (15, .int .u64 q1), (17, .int .u64 (u64 ((u64 ((u64 ((bor .u64 q5 q6) * 4294967296)) + q8)) - (u64 (q1 * q3))))), (18, .int .u64 q0)], []⟩) h (fun h => ?_) (fun j h => ?_)
          · skip
            refine T_block ?_
            obtain ⟨r2, hl2, ho2⟩ := bndL h
            refine T_loopG _ (t2 fun rhat2 q02 => ⟨[(2, .int .u64 q3), (8, .int .u64 (u64 y2)), (9, .int .u64 q4), (10, .int .u64 (band .u64 q3 4294967295)), (14, .int .u64 (band .u64 q7 4294967295)), (15, .int .u64 q1), (16, .int .u64 rhat2), (17, .int .u64 (u64 ((u64 ((u64 ((bor .u64 q5 q6) * 4294967296)) + q8)) - (u64 (q1 * q3))))), (18, .int .u64 q02)], []⟩) _ hl2 (Ent.sel [] (sd 2 rfl rfl <| sd 8 rfl rfl <| sd 9 rfl rfl <| sd 10 rfl rfl <| sd 14 rfl rfl <| sd 15 rfl rfl <| sd 16 rfl rfl <| sd 17 rfl rfl <| sd 18 rfl rfl <| sn) (.nil) rfl rfl) (fun n2 s2 h => ?_)
            obtain ⟨rhat2, q02⟩ := s2
            replace h := t2i h
            refine t2T ?_
            unfold bits_Div64_L2 at h
            refine T_seq ?_
            refine T_seq (T_reg ?_)
            refine R_q _ rfl (v_move (ov rfl)) ?_
            refine R_q _ rfl (v_geq (ov rfl) (ov rfl)) ?_
            refine R_q _ rfl (v_move (ov rfl)) ?_
            refine R_q _ rfl (.guarded ((decide (4294967296 ≤ q02)) == false) rfl rfl rfl rfl fun h => v_move (ov rfl)) ?_
            refine R_q _ rfl (.guarded ((decide (4294967296 ≤ q02)) == false) rfl rfl rfl rfl fun h => v_move (ov rfl)) ?_
            refine R_q _ rfl (.guarded ((decide (4294967296 ≤ q02)) == false) rfl rfl rfl rfl fun h => v_mul (ow rfl h) (ow rfl h) rfl) ?_
            refine R_q _ rfl (.guarded ((decide (4294967296 ≤ q02)) == false) rfl rfl rfl rfl fun h => v_move (ov rfl)) ?_
            refine R_q _ rfl (.guarded ((decide (4294967296 ≤ q02)) == false) rfl rfl rfl rfl fun h => v_mul (ov rfl) (ow rfl h) rfl) ?_
            refine R_q _ rfl (.guarded ((decide (4294967296 ≤ q02)) == false) rfl rfl rfl rfl fun h => v_move (ov rfl)) ?_
            refine R_q _ rfl (.guarded ((decide (4294967296 ≤ q02)) == false) rfl rfl rfl rfl fun h => v_add (ow rfl h) (ow rfl h) rfl) ?_
            refine R_q _ rfl (.guarded ((decide (4294967296 ≤ q02)) == false) rfl rfl rfl rfl fun h => v_gtr (ow rfl h) (ow rfl h)) ?_
            refine R_q _ rfl (v_or (ov rfl) (fun hp => ow rfl (gF hp))) ?_
            refine R_nil ?_
            refine T_keep (kc 2 rfl <| kc 8 rfl <| kc 9 rfl <| kc 10 rfl <| kc 14 rfl <| kc 15 rfl <| kc 16 rfl <| kc 17 rfl <| kc 18 rfl <| kc 113 rfl <| kn) rfl ?_
            refine T_if h rfl (fun b113 h => ?_) (fun b113 h => ?_)
            · skip
              refine T_skip ?_
              refine T_block ?_
              refine T_keep (kc 2 rfl <| kc 8 rfl <| kc 9 rfl <| kc 10 rfl <| kc 14 rfl <| kc 15 rfl <| kc 16 rfl <| kc 17 rfl <| kc 18 rfl <| kn) rfl ?_
              refine T_seq (T_reg ?_)
              refine R_q _ rfl (v_move (ov rfl)) ?_
              refine R_q _ rfl (v_sub (ov rfl) (ov rfl) rfl) ?_
              refine R_q _ rfl (v_assign (ov rfl)) ?_
              refine R_nil ?_
              refine T_keep (kc 2 rfl <| kc 8 rfl <| kc 9 rfl <| kc 10 rfl <| kc 14 rfl <| kc 15 rfl <| kc 16 rfl <| kc 17 rfl <| kc 18 rfl <| kn) rfl ?_
              refine T_seq (T_reg ?_)
              refine R_q _ rfl (v_move (ov rfl)) ?_
              refine R_q _ rfl (v_move (ov rfl)) ?_
              refine R_q _ rfl (v_add (ov rfl) (ov rfl) rfl) ?_
              refine R_q _ rfl (v_assign (ov rfl)) ?_
              refine R_nil ?_
              refine T_keep (kc 2 rfl <| kc 8 rfl <| kc 9 rfl <| kc 10 rfl <| kc 14 rfl <| kc 15 rfl <| kc 16 rfl <| kc 17 rfl <| kc 18 rfl <| kn) rfl ?_
              refine T_seq (T_reg ?_)
              refine R_q _ rfl (v_move (ov rfl)) ?_
              refine R_q _ rfl (v_geq (ov rfl) (ov rfl)) ?_
              refine R_nil ?_
              refine T_keep (kc 2 rfl <| kc 8 rfl <| kc 9 rfl <| kc 10 rfl <| kc 14 rfl <| kc 15 rfl <| kc 16 rfl <| kc 17 rfl <| kc 18 rfl <| kc 120 rfl <| kn) rfl ?_
              refine T_if h rfl (fun b120 h => ?_) (fun b120 h => ?_)
              · skip
                refine T_exit ?_
                rw [lx h] at ho2
                replace h := ho2
                exact ⟨(u64 (q02 - 1)), h, Ent.sel [] (sd 2 rfl rfl <| sd 8 rfl rfl <| sd 14 rfl rfl <| sd 15 rfl rfl <| sd 17 rfl rfl <| sd 18 rfl rfl <| sn) (.nil) rfl rfl⟩
              · skip
                refine T_skip ?_
                exact ⟨((u64 (rhat2 + q4)), (u64 (q02 - 1))), h, Ent.sel [] (sd 2 rfl rfl <| sd 8 rfl rfl <| sd 9 rfl rfl <| sd 10 rfl rfl <| sd 14 rfl rfl <| sd 15 rfl rfl <| sd 16 rfl rfl <| sd 17 rfl rfl <| sd 18 rfl rfl <| sn) (.nil) rfl rfl⟩
            · skip
              refine T_exit ?_
              rw [lx h] at ho2
              replace h := ho2
              exact ⟨q02, h, Ent.sel [] (sd 2 rfl rfl <| sd 8 rfl rfl <| sd 14 rfl rfl <| sd 15 rfl rfl <| sd 17 rfl rfl <| sd 18 rfl rfl <| sn) (.nil) rfl rfl⟩
          · skip
            obtain ⟨q0, rfl⟩ : ∃ x, x = j := ⟨_, rfl⟩
            replace h := t1i h
            refine t1T ?_
            refine T_seq (T_reg ?_)
            refine R_q _ rfl (v_move (ov rfl)) ?_
            refine R_q _ rfl (v_mul (ov rfl) (ov rfl) rfl) ?_
            refine R_q _ rfl (v_move (ov rfl)) ?_
            refine R_q _ rfl (v_add (ov rfl) (ov rfl) rfl) ?_
            refine R_q _ rfl (v_move (ov rfl)) ?_
            refine R_q _ rfl (v_mul (ov rfl) (ov rfl) rfl) ?_
            refine R_q _ rfl (v_move (ov rfl)) ?_
            refine R_q _ rfl (v_add (ov rfl) (ov rfl) rfl) ?_
            refine R_q _ rfl (v_move (ov rfl)) ?_
            refine R_q _ rfl (v_move (ov rfl)) ?_
            refine R_q _ rfl (v_mul (ov rfl) (ov rfl) rfl) ?_
            refine R_q _ rfl (v_sub (ov rfl) (ov rfl) rfl) ?_
            refine R_q _ rfl (v_move (ov rfl)) ?_
            obtain ⟨q11, h_q11, h⟩ := bnd h
            refine R_q _ rfl (v_shrG (ov rfl) (ov rfl) h_q11) ?_
            refine R_q _ rfl (v_assign (ov rfl)) ?_
            refine R_q _ rfl (v_assign (ov rfl)) ?_
            refine R_nil ?_
            obtain rfl := rt (v := ((u64 ((u64 (q1 * 4294967296)) + q0)), q11)) h
            refine T_ret (retq ?_ (.two (.tmp rfl (Dat.view (.b rfl))) (.tmp rfl (Dat.view (.b rfl)))))
            rfl

theorem ok_ref5_gcd {a : Int} {b : Int} {r : Int} (h : ref5_gcd a b = some r) :
    CSpec Try.prog gl0 64 [.int .i64 a, .int .i64 b] (.int .i64 r) := by
  unfold ref5_gcd at h
  replace h := bnd0 h
  refine spec_of (by kernel_rfl) Try.func64 rfl rfl ?_
  intro w0 A
  refine T_seq (T_reg ?_)
  refine R_q _ rfl (v_assign (ov rfl)) ?_
  refine R_nil ?_
  refine T_joinG id (t1 fun a2 => ⟨[(0, .int .i64 a2)], []⟩) h (fun h => ?_) (fun j h => ?_)
  · skip
    refine T_block ?_
    obtain ⟨r1, hl1, ho1⟩ := bndL h
    refine T_loopG _ (t2 fun a3 b2 => ⟨[(0, .int .i64 a3), (1, .int .i64 b2)], []⟩) _ hl1 (Ent.sel [] (sd 0 rfl rfl <| sd 1 rfl rfl <| sn) (.nil) rfl rfl) (fun n1 s1 h => ?_)
    obtain ⟨a3, b2⟩ := s1
    replace h := t2i h
    refine t2T ?_
    unfold ref5_gcd_L1 at h
    refine T_seq ?_
    refine T_seq (T_reg ?_)
    refine R_q _ rfl (v_move (ov rfl)) ?_
    refine R_q _ rfl (v_neq (ov rfl) (ov rfl)) ?_
    refine R_nil ?_
    refine T_keep (kc 0 rfl <| kc 1 rfl <| kc 6 rfl <| kn) rfl ?_
    refine T_if h rfl (fun b6 h => ?_) (fun b6 h => ?_)
    · skip
      refine T_skip ?_
      refine T_block ?_
      refine T_keep (kc 0 rfl <| kc 1 rfl <| kn) rfl ?_
      refine T_draw (cw := md0) (by kernel_rfl) ?_
      refine D_free 0 _ rfl (by kernel_rfl) rfl rfl (fun hp' => v_move (ov rfl)) ?_
      refine D_free 1 _ rfl (by kernel_rfl) rfl rfl (fun hp' => v_move (ov rfl)) ?_
      refine D_free 2 _ rfl (by kernel_rfl) rfl rfl (fun hp' => v_move (ov rfl)) ?_
      obtain ⟨q, h_q, h⟩ := bnd h
      refine D_free 3 _ rfl (by kernel_rfl) rfl rfl (fun hp' => v_remG (ov rfl) (ov rfl) h_q) ?_
      refine D_free 4 _ rfl (by kernel_rfl) rfl rfl (fun hp' => v_assign (ov rfl)) ?_
      refine D_free 5 _ rfl (by kernel_rfl) rfl rfl (fun hp' => v_assign (ov rfl)) ?_
      refine D_done (by kernel_rfl) ?_
      exact ⟨(b2, q), h, Ent.sel [] (sd 0 rfl rfl <| sd 1 rfl rfl <| sn) (.nil) rfl rfl⟩
    · skip
      refine T_exit ?_
      rw [lx h] at ho1
      replace h := ho1
      exact ⟨a3, h, Ent.sel [] (sd 0 rfl rfl <| sn) (.nil) rfl rfl⟩
  · skip
    obtain ⟨a2, rfl⟩ : ∃ x, x = j := ⟨_, rfl⟩
    replace h := t1i h
    refine t1T ?_
    refine T_seq (T_reg ?_)
    refine R_q _ rfl (v_move (ov rfl)) ?_
    refine R_q _ rfl (v_assign (ov rfl)) ?_
    refine R_nil ?_
    obtain rfl := rt (v := a2) h
    refine T_ret (retq ?_ (.one (.tmp rfl (Dat.view (.b rfl)))))
    rfl

theorem ok_ref5_ratio {a : ref5_wide} {den : Int} {r : api_Ratio × Bool} (h : ref5_ratio a den = some r) :
    CSpec Try.prog gl0 51 [.agg [.bool a.neg, .int .u64 a.high, .int .u64 a.low], .int .i64 den] (.tuple [.agg [.int .i64 r.1.Num, .int .i64 r.1.Den], .bool r.2]) := by
  unfold ref5_ratio at h
  replace h := bnd0 h
  refine spec_of (by kernel_rfl) Try.func51 rfl rfl ?_
  intro w0 A
  refine T_seq (T_reg ?_)
  refine R_q _ rfl (v_boxD (cva (ov rfl)) rfl tZ_81 rfl) ?_
  refine R_w _ _ rfl (w_alloc (row := [_, _]) 0 rfl tZ44 rfl tZ_44) ?_
  refine R_q _ rfl (v_assign (ov rfl)) ?_
  refine R_nil ?_
  refine T_seq ?_
  refine T_keep (kc 1 rfl <| kc 2 rfl <| kc 4 rfl <| kn) rfl ?_
  refine T_seq (T_reg ?_)
  refine R_q _ rfl (v_fieldR (ov rfl) tF81_1) ?_
  refine R_q _ rfl (v_loadS_r (ov rfl) tS71 rfl) ?_
  refine R_q _ rfl (v_eql (ov rfl) (ov rfl)) ?_
  refine R_q _ rfl (v_move (ov rfl)) ?_
  refine R_q _ rfl (.guarded ((decide (a.high = 0)) == true) rfl rfl rfl rfl fun h => v_fieldR (ov rfl) tF81_2) ?_
  refine R_q _ rfl (.guarded ((decide (a.high = 0)) == true) rfl rfl rfl rfl fun h => v_loadS_r (ow rfl h) tS71 rfl) ?_
  refine R_q _ rfl (.guarded ((decide (a.high = 0)) == true) rfl rfl rfl rfl fun h => v_eql (ow rfl h) (ov rfl)) ?_
  refine R_q _ rfl (v_and (ov rfl) (fun hp => ow rfl (gT hp))) ?_
  refine R_nil ?_
  refine T_keep (kc 1 rfl <| kc 2 rfl <| kc 4 rfl <| kc 20 rfl <| kn) rfl ?_
  refine T_if h rfl (fun b20 h => ?_) (fun b20 h => ?_)
  · skip
    refine T_keep (kc 4 rfl <| kn) rfl ?_
    refine T_seq (T_reg ?_)
    refine R_q _ rfl (v_build (ys := [_, _]) tPL44 tHA44 tZ44 (.cons (cvs (ov rfl) (cell1_b rfl)) <| .nil) rfl) ?_
    refine R_w _ _ rfl (w_store (ov rfl) (ov rfl) (cells_agg tA44 rfl) rfl rfl rfl (Nat.le_of_ble_eq_true rfl) (cell1_all rfl) rfl) ?_
    refine R_q _ rfl (v_assign (ov rfl)) ?_
    refine R_nil ?_
    obtain rfl := rt (v := ((api_Ratio.mk 0 1), true)) h
    refine T_ret (retq ?_ (.two (.agg rfl rfl rfl rfl tA44 rfl rfl (pwB rfl)) (.tmp rfl (Dat.view (.b rfl)))))
    rfl
  · skip
    refine T_skip ?_
    refine T_keep (kc 1 rfl <| kc 2 rfl <| kc 4 rfl <| kn) rfl ?_
    refine T_seq (T_draw (cw := md0) (by kernel_rfl) ?_)
    refine D_read 0 _ rfl (by kernel_rfl) rfl rfl rfl ExtW.refl (fun hp' hx => v_fieldR (ov rfl) tF81_1) ?_
    refine D_read 1 _ rfl (by kernel_rfl) rfl rfl rfl ExtW.refl (fun hp' hx => v_loadS_r (ov rfl) tS71 rfl) ?_
    refine D_free 2 _ rfl (by kernel_rfl) rfl rfl (fun hp' => v_move (ov rfl)) ?_
    refine D_read 3 _ rfl (by kernel_rfl) rfl rfl rfl ExtW.refl (fun hp' hx => v_conv (ov rfl) tI3 tI71 rfl) ?_
    obtain ⟨q, h_q, h⟩ := bnd h
    refine D_free 4 _ rfl (by kernel_rfl) rfl rfl (fun hp' => v_remG (ov rfl) (ov rfl) h_q) ?_
    refine D_read 5 _ rfl (by kernel_rfl) rfl rfl rfl ExtW.refl (fun hp' hx => v_fieldR (ov rfl) tF81_2) ?_
    refine D_read 6 _ rfl (by kernel_rfl) rfl rfl rfl ExtW.refl (fun hp' hx => v_loadS_r (ov rfl) tS71 rfl) ?_
    refine D_free 7 _ rfl (by kernel_rfl) rfl rfl (fun hp' => v_move (ov rfl)) ?_
    refine D_read 8 _ rfl (by kernel_rfl) rfl rfl rfl ExtW.refl (fun hp' hx => v_conv (ov rfl) tI3 tI71 rfl) ?_
    obtain ⟨y, h_y, h⟩ := bnd h
    refine D_read 9 _ rfl (by kernel_rfl) rfl rfl rfl ExtW.refl (fun hp' hx => v_call (ok_bits_Div64 h_y) (.cons (ov rfl) (.b rfl) <| .cons (ov rfl) (.b rfl) <| .cons (ov rfl) (.b rfl) <| .nil)) ?_
    refine D_free 10 _ rfl (by kernel_rfl) rfl rfl (fun hp' => v_move (ov rfl)) ?_
    refine D_free 11 _ rfl (by kernel_rfl) rfl rfl (fun hp' => v_extract (ov rfl) rfl) ?_
    refine D_free 12 _ rfl (by kernel_rfl) rfl rfl (fun hp' => v_extract (ov rfl) rfl) ?_
    refine D_free 13 _ rfl (by kernel_rfl) rfl rfl (fun hp' => v_assign (ov rfl)) ?_
    refine D_free 14 _ rfl (by kernel_rfl) rfl rfl (fun hp' => v_assign (ov rfl)) ?_
    refine D_done (by kernel_rfl) ?_
    refine T_keep (kc 1 rfl <| kc 2 rfl <| kc 4 rfl <| kc 7 rfl <| kn) rfl ?_
    refine T_seq (T_reg ?_)
    refine R_q _ rfl (v_move (ov rfl)) ?_
    refine R_q _ rfl (v_move (ov rfl)) ?_
    refine R_q _ rfl (v_conv (ov rfl) tI71 tI3 rfl) ?_
    obtain ⟨y2, h_y2, h⟩ := bnd h
    refine R_q _ rfl (v_call (ok_ref5_gcd h_y2) (.cons (ov rfl) (.b rfl) <| .cons (ov rfl) (.b rfl) <| .nil)) ?_
    refine R_q _ rfl (v_assign (ov rfl)) ?_
    refine R_nil ?_
    refine T_keep (kc 1 rfl <| kc 2 rfl <| kc 4 rfl <| kc 8 rfl <| kn) rfl ?_
    refine T_seq (T_reg ?_)
    refine R_q _ rfl (v_fieldR (ov rfl) tF81_1) ?_
    refine R_q _ rfl (v_loadS_r (ov rfl) tS71 rfl) ?_
    refine R_q _ rfl (v_move (ov rfl)) ?_
    refine R_q _ rfl (v_conv (ov rfl) tI3 tI71 rfl) ?_
    obtain ⟨q2, h_q2, h⟩ := bnd h
    refine R_q _ rfl (v_quoG (ov rfl) (ov rfl) h_q2) ?_
    refine R_q _ rfl (v_assign (ov rfl)) ?_
    refine R_nil ?_
    refine T_keep (kc 1 rfl <| kc 2 rfl <| kc 4 rfl <| kc 8 rfl <| kc 9 rfl <| kn) rfl ?_
    refine T_seq (T_draw (cw := md0) (by kernel_rfl) ?_)
    refine D_read 0 _ rfl (by kernel_rfl) rfl rfl rfl ExtW.refl (fun hp' hx => v_fieldR (ov rfl) tF81_1) ?_
    refine D_read 1 _ rfl (by kernel_rfl) rfl rfl rfl ExtW.refl (fun hp' hx => v_loadS_r (ov rfl) tS71 rfl) ?_
    refine D_free 2 _ rfl (by kernel_rfl) rfl rfl (fun hp' => v_move (ov rfl)) ?_
    refine D_read 3 _ rfl (by kernel_rfl) rfl rfl rfl ExtW.refl (fun hp' hx => v_conv (ov rfl) tI3 tI71 rfl) ?_
    obtain ⟨q3, h_q3, h⟩ := bnd h
    refine D_free 4 _ rfl (by kernel_rfl) rfl rfl (fun hp' => v_remG (ov rfl) (ov rfl) h_q3) ?_
    refine D_read 5 _ rfl (by kernel_rfl) rfl rfl rfl ExtW.refl (fun hp' hx => v_fieldR (ov rfl) tF81_2) ?_
    refine D_read 6 _ rfl (by kernel_rfl) rfl rfl rfl ExtW.refl (fun hp' hx => v_loadS_r (ov rfl) tS71 rfl) ?_
    refine D_free 7 _ rfl (by kernel_rfl) rfl rfl (fun hp' => v_move (ov rfl)) ?_
    refine D_read 8 _ rfl (by kernel_rfl) rfl rfl rfl ExtW.refl (fun hp' hx => v_conv (ov rfl) tI3 tI71 rfl) ?_
    obtain ⟨y3, h_y3, h⟩ := bnd h
    refine D_read 9 _ rfl (by kernel_rfl) rfl rfl rfl ExtW.refl (fun hp' hx => v_call (ok_bits_Div64 h_y3) (.cons (ov rfl) (.b rfl) <| .cons (ov rfl) (.b rfl) <| .cons (ov rfl) (.b rfl) <| .nil)) ?_
    refine D_free 10 _ rfl (by kernel_rfl) rfl rfl (fun hp' => v_move (ov rfl)) ?_
    refine D_free 11 _ rfl (by kernel_rfl) rfl rfl (fun hp' => v_extract (ov rfl) rfl) ?_
    refine D_free 12 _ rfl (by kernel_rfl) rfl rfl (fun hp' => v_extract (ov rfl) rfl) ?_
    refine D_free 13 _ rfl (by kernel_rfl) rfl rfl (fun hp' => v_assign (ov rfl)) ?_
    refine D_free 14 _ rfl (by kernel_rfl) rfl rfl (fun hp' => v_assign (ov rfl)) ?_
    refine D_done (by kernel_rfl) ?_
    refine T_keep (kc 1 rfl <| kc 2 rfl <| kc 4 rfl <| kc 8 rfl <| kc 9 rfl <| kc 10 rfl <| kn) rfl ?_
    refine T_seq (T_reg ?_)
    refine R_q _ rfl (v_move (ov rfl)) ?_
    refine R_q _ rfl (v_move (ov rfl)) ?_
    obtain ⟨q4, h_q4, h⟩ := bnd h
    refine R_q _ rfl (v_quoG (ov rfl) (ov rfl) h_q4) ?_
    refine R_q _ rfl (v_assign (ov rfl)) ?_
    refine R_nil ?_
    refine T_seq ?_
    refine T_keep (kc 1 rfl <| kc 2 rfl <| kc 4 rfl <| kc 9 rfl <| kc 10 rfl <| kn) rfl ?_
    refine T_seq (T_reg ?_)
    refine R_q _ rfl (v_move (ov rfl)) ?_
    refine R_q _ rfl (v_neq (ov rfl) (ov rfl)) ?_
    refine R_q _ rfl (v_move (ov rfl)) ?_
    refine R_q _ rfl (.guarded ((!decide (q2 = 0)) == false) rfl rfl rfl rfl fun h => v_move (ov rfl)) ?_
    refine R_q _ rfl (.guarded ((!decide (q2 = 0)) == false) rfl rfl rfl rfl fun h => v_gtr (ow rfl h) (ov rfl)) ?_
    refine R_q _ rfl (v_or (ov rfl) (fun hp => ow rfl (gF hp))) ?_
    refine R_q _ rfl (v_move (ov rfl)) ?_
    refine R_q _ rfl (.guarded (((!decide (q2 = 0)) || (decide (4611686018427387904 < y3.1))) == false) rfl rfl rfl rfl fun h => v_move (ov rfl)) ?_
    refine R_q _ rfl (.guarded (((!decide (q2 = 0)) || (decide (4611686018427387904 < y3.1))) == false) rfl rfl rfl rfl fun h => v_gtr (ow rfl h) (ov rfl)) ?_
    refine R_q _ rfl (v_or (ov rfl) (fun hp => ow rfl (gF hp))) ?_
    refine R_nil ?_
    refine T_keep (kc 1 rfl <| kc 2 rfl <| kc 4 rfl <| kc 10 rfl <| kc 69 rfl <| kn) rfl ?_
    refine T_if h rfl (fun b69 h => ?_) (fun b69 h => ?_)
    · skip
      refine T_keep (kc 4 rfl <| kn) rfl ?_
      refine T_seq (T_reg ?_)
      refine R_q _ rfl (v_build (ys := [_, _]) tPL44 tHA44 tZ44 (.nil) rfl) ?_
      refine R_w _ _ rfl (w_store (ov rfl) (ov rfl) (cells_agg tA44 rfl) rfl rfl rfl (Nat.le_of_ble_eq_true rfl) (cell1_all rfl) rfl) ?_
      refine R_q _ rfl (v_assign (ov rfl)) ?_
      refine R_nil ?_
      obtain rfl := rt (v := ((api_Ratio.mk 0 0), false)) h
      refine T_ret (retq ?_ (.two (.agg rfl rfl rfl rfl tA44 rfl rfl (pwB rfl)) (.tmp rfl (Dat.view (.b rfl)))))
      rfl
    · skip
      refine T_skip ?_
      refine T_keep (kc 1 rfl <| kc 2 rfl <| kc 4 rfl <| kc 10 rfl <| kn) rfl ?_
      refine T_seq (T_reg ?_)
      refine R_q _ rfl (v_move (ov rfl)) ?_
      refine R_q _ rfl (v_conv (ov rfl) tI71 tI3 rfl) ?_
      refine R_q _ rfl (v_assign (ov rfl)) ?_
      refine R_nil ?_
      refine T_joinG id (t1 fun n => ⟨[(1, .int .i64 q4), (4, .ptr 0 1 0 0), (12, .int .i64 n)], [some ⟨44, [[.int .i64 0, .int .i64 0]]⟩]⟩) h (fun h => ?_) (fun j h => ?_)
      · skip
        refine T_keep (kc 1 rfl <| kc 2 rfl <| kc 4 rfl <| kc 12 rfl <| kn) rfl ?_
        refine T_seq (T_reg ?_)
        refine R_q _ rfl (v_fieldR (ov rfl) tF81_0) ?_
        refine R_q _ rfl (v_loadS_r (ov rfl) tS4 rfl) ?_
        refine R_nil ?_
        refine T_keep (kc 1 rfl <| kc 4 rfl <| kc 12 rfl <| kc 74 rfl <| kn) rfl ?_
        refine T_if h rfl (fun b74 h => ?_) (fun b74 h => ?_)
        · skip
          refine T_keep (kc 1 rfl <| kc 4 rfl <| kc 12 rfl <| kn) rfl ?_
          refine T_reg ?_
          refine R_q _ rfl (v_move (ov rfl)) ?_
          refine R_q _ rfl (v_neg (ov rfl) rfl) ?_
          refine R_q _ rfl (v_assign (ov rfl)) ?_
          refine R_nil ?_
          exact ⟨(i64 (-(i64 y3.1))), h, Ent.sel [some 0] (sd 1 rfl rfl <| sr 4 rfl (.ptr _ _ _ rfl) <| sd 12 rfl rfl <| sn) (.cons rfl (ro1 (by exact tZ_44.symm) (rld rfl)) <| .nil) rfl rfl⟩
        · skip
          refine T_skip ?_
          exact ⟨(i64 y3.1), h, Ent.sel [some 0] (sd 1 rfl rfl <| sr 4 rfl (.ptr _ _ _ rfl) <| sd 12 rfl rfl <| sn) (.cons rfl (ro1 (by exact tZ_44.symm) (rld rfl)) <| .nil) rfl rfl⟩
      · skip
        obtain ⟨n, rfl⟩ : ∃ x, x = j := ⟨_, rfl⟩
        replace h := t1i h
        refine t1T ?_
        refine T_seq (T_reg ?_)
        refine R_q _ rfl (v_move (ov rfl)) ?_
        refine R_q _ rfl (v_move (ov rfl)) ?_
        refine R_q _ rfl (v_build (ys := [_, _]) tPL44 tHA44 tZ44 (.cons (cvs (ov rfl) (cell1_b rfl)) <| .cons (cvs (ov rfl) (cell1_b rfl)) <| .nil) rfl) ?_
        refine R_w _ _ rfl (w_store (ov rfl) (ov rfl) (cells_agg tA44 rfl) rfl rfl rfl (Nat.le_of_ble_eq_true rfl) (cell1_all rfl) rfl) ?_
        refine R_q _ rfl (v_assign (ov rfl)) ?_
        refine R_nil ?_
        obtain rfl := rt (v := ((api_Ratio.mk n q4), true)) h
        refine T_ret (retq ?_ (.two (.agg rfl rfl rfl rfl tA44 rfl rfl (pwB rfl)) (.tmp rfl (Dat.view (.b rfl)))))
        rfl

theorem ok_ref5_between {s : api_Series} {at_ : Int} {long : Int} {r : api_Ratio × Bool × Bool} (h : ref5_between s at_ long = some r) :
    CSpec Try.prog gl0 42 [.agg [.int .i64 s.Den, .sl 27 (List.map R27 s.Samples)], .int .i64 at_, .int .i64 long] (.tuple [.agg [.int .i64 r.1.Num, .int .i64 r.1.Den], .bool r.2.1, .bool r.2.2]) := by
  unfold ref5_between at h
  replace h := bnd0 h
  refine spec_of (by kernel_rfl) Try.func42 rfl rfl ?_
  intro w0 A
  refine T_seq (T_reg ?_)
  refine R_q _ rfl (v_boxD (cva (ov rfl)) rfl tZ_24 rfl) ?_
  refine R_w _ _ rfl (w_alloc (row := [_, _]) 0 rfl tZ44 rfl tZ_44) ?_
  refine R_q _ rfl (v_assign (ov rfl)) ?_
  refine R_q _ rfl (v_assign (ov rfl)) ?_
  refine R_nil ?_
  refine T_keep (kc 1 rfl <| kc 2 rfl <| kc 3 rfl <| kc 6 rfl <| kn) rfl ?_
  refine T_seq (T_reg ?_)
  refine R_q _ rfl (v_loadA_r (ov rfl) tA24 rfl rfl) ?_
  obtain ⟨y, h_y, h⟩ := bnd h
  refine R_q _ rfl (v_call (ok_ref5_Solids h_y) (.cons (ov rfl) (.aggB rfl) <| .nil)) ?_
  refine R_q _ rfl (v_assign (ov rfl)) ?_
  refine R_nil ?_
  refine T_joinG (fun j => (.inr j)) (t0 ⟨[(6, .ptr 0 1 0 0)], [some ⟨44, [[.int .i64 0, .int .i64 0]]⟩]⟩) h (fun h => ?_) (fun j h => ?_)
  · skip
    refine T_keep (kc 1 rfl <| kc 2 rfl <| kc 3 rfl <| kc 6 rfl <| kc 9 rfl <| kn) rfl ?_
    refine T_seq (T_reg ?_)
    refine R_q _ rfl (v_assign (ov rfl)) ?_
    refine R_nil ?_
    refine T_block ?_
    obtain ⟨r1, hl1, ho1⟩ := bndL h
    refine T_loopG _ (t1 fun i => ⟨[(1, .int .i64 at_), (2, .int .i64 long), (3, .rp [.int .i64 s.Den, .sl 27 (List.map R27 s.Samples)] 0), (6, .ptr 0 1 0 0), (9, .sl 3 (List.map R3 y)), (10, .int .i64 i)], [some ⟨44, [[.int .i64 0, .int .i64 0]]⟩]⟩) _ hl1 (Ent.sel [some 0] (sd 1 rfl rfl <| sd 2 rfl rfl <| sd 3 rfl rfl <| sr 6 rfl (.ptr _ _ _ rfl) <| sd 9 rfl rfl <| sd 10 rfl rfl <| sn) (.cons rfl (ro1 (by exact tZ_44.symm) (rld rfl)) <| .nil) rfl rfl) (fun n1 s1 h => ?_)
    obtain ⟨i, rfl⟩ : ∃ x, x = s1 := ⟨_, rfl⟩
    replace h := t1i h
    refine t1T ?_
    unfold ref5_between_L1 at h
    refine T_seq ?_
    refine T_seq (T_reg ?_)
    refine R_q _ rfl (v_move (ov rfl)) ?_
    refine R_q _ rfl (v_move (ov rfl)) ?_
    refine R_q _ rfl (v_len (slv_sl (ov rfl) tZ_3) tL25 (len_map _ _)) ?_
    refine R_q _ rfl (v_lss (ov rfl) (ov rfl)) ?_
    refine R_nil ?_
    refine T_keep (kc 1 rfl <| kc 2 rfl <| kc 3 rfl <| kc 6 rfl <| kc 9 rfl <| kc 10 rfl <| kc 20 rfl <| kn) rfl ?_
    refine T_if h rfl (fun b20 h => ?_) (fun b20 h => ?_)
    · skip
      refine T_skip ?_
      refine T_seq ?_
      refine T_block ?_
      refine T_keep (kc 1 rfl <| kc 2 rfl <| kc 3 rfl <| kc 6 rfl <| kc 9 rfl <| kc 10 rfl <| kn) rfl ?_
      refine T_seq (T_draw (cw := md0) (by kernel_rfl) ?_)
      refine D_read 0 _ rfl (by kernel_rfl) rfl rfl rfl ExtW.refl (fun hp' hx => v_fieldR (ov rfl) tF24_1) ?_
      refine D_read 1 _ rfl (by kernel_rfl) rfl rfl rfl ExtW.refl (fun hp' hx => v_loadS_r (ov rfl) tS22 rfl) ?_
      refine D_free 2 _ rfl (by kernel_rfl) rfl rfl (fun hp' => v_move (ov rfl)) ?_
      refine D_free 3 _ rfl (by kernel_rfl) rfl rfl (fun hp' => v_move (ov rfl)) ?_
      obtain ⟨x, h_x, h⟩ := bnd h
      refine D_read 4 _ rfl (by kernel_rfl) rfl rfl rfl ExtW.refl (fun hp' hx => v_ixSG (ov rfl) (ov rfl) tL25 h_x) ?_
      refine D_read 5 _ rfl (by kernel_rfl) rfl rfl rfl ExtW.refl (fun hp' hx => v_loadS_r (ov rfl) tS3 rfl) ?_
      obtain ⟨x2, h_x2, h⟩ := bnd h
      refine D_read 6 _ rfl (by kernel_rfl) rfl rfl rfl ExtW.refl (fun hp' hx => v_ixSG (ov rfl) (ov rfl) tL22 h_x2) ?_
      refine D_read 7 _ rfl (by kernel_rfl) rfl rfl rfl ExtW.refl (fun hp' hx => v_loadA_r (ov rfl) tA27 rfl rfl) ?_
      refine D_one 8 _ _ rfl (by kernel_rfl) rfl rfl (fun _ => Ext.app) (fun h => by cases h) (w_alloc (row := [_, _, _]) 1 rfl tZ27 rfl tZ_27) ?_
      refine D_one 9 _ _ rfl (by kernel_rfl) rfl rfl (fun h => by cases h) (fun h => by cases h) (w_store (ov rfl) (ov rfl) (cells_agg tA27 rfl) rfl rfl rfl (Nat.le_of_ble_eq_true rfl) (cell1_all rfl) rfl) ?_
      refine D_done (by kernel_rfl) ?_
      refine T_seq ?_
      refine T_keep (kc 1 rfl <| kc 2 rfl <| kc 3 rfl <| kc 6 rfl <| kc 9 rfl <| kc 10 rfl <| kc 11 rfl <| kn) rfl ?_
      refine T_seq (T_reg ?_)
      refine R_q _ rfl (v_fieldP (ov rfl) rfl rfl tF27_0) ?_
      refine R_q _ rfl (v_loadS (ov rfl) rfl rfl rfl tS3 rfl) ?_
      refine R_q _ rfl (v_move (ov rfl)) ?_
      refine R_q _ rfl (v_eql (ov rfl) (ov rfl)) ?_
      refine R_nil ?_
      refine T_keep (kc 1 rfl <| kc 2 rfl <| kc 3 rfl <| kc 6 rfl <| kc 9 rfl <| kc 10 rfl <| kc 11 rfl <| kc 34 rfl <| kn) rfl ?_
      refine T_if h rfl (fun b34 h => ?_) (fun b34 h => ?_)
      · skip
        refine T_keep (kc 6 rfl <| kc 11 rfl <| kn) rfl ?_
        refine T_seq (T_reg ?_)
        refine R_q _ rfl (v_fieldP (ov rfl) rfl rfl tF27_1) ?_
        refine R_q _ rfl (v_loadS (ov rfl) rfl rfl rfl tS3 rfl) ?_
        refine R_q _ rfl (v_build (ys := [_, _]) tPL44 tHA44 tZ44 (.cons (cvs (ov rfl) (cell1_b rfl)) <| .cons (cvs (ov rfl) (cell1_b rfl)) <| .nil) rfl) ?_
        refine R_w _ _ rfl (w_store (ov rfl) (ov rfl) (cells_agg tA44 rfl) rfl rfl rfl (Nat.le_of_ble_eq_true rfl) (cell1_all rfl) rfl) ?_
        refine R_q _ rfl (v_assign (ov rfl)) ?_
        refine R_q _ rfl (v_assign (ov rfl)) ?_
        refine R_nil ?_
        rw [lx h] at ho1
        replace h := ho1
        obtain rfl := rt (v := ((api_Ratio.mk x2.N 1), true, true)) h
        refine T_ret (retq ?_ (.three (.agg rfl rfl rfl rfl tA44 rfl rfl (pwB rfl)) (.tmp rfl (Dat.view (.b rfl))) (.tmp rfl (Dat.view (.b rfl)))))
        rfl
      · skip
        refine T_skip ?_
        refine T_seq ?_
        refine T_keep (kc 1 rfl <| kc 2 rfl <| kc 3 rfl <| kc 6 rfl <| kc 9 rfl <| kc 10 rfl <| kc 11 rfl <| kn) rfl ?_
        refine T_seq (T_reg ?_)
        refine R_q _ rfl (v_fieldP (ov rfl) rfl rfl tF27_0) ?_
        refine R_q _ rfl (v_loadS (ov rfl) rfl rfl rfl tS3 rfl) ?_
        refine R_q _ rfl (v_move (ov rfl)) ?_
        refine R_q _ rfl (v_lss (ov rfl) (ov rfl)) ?_
        refine R_nil ?_
        refine T_keep (kc 1 rfl <| kc 2 rfl <| kc 3 rfl <| kc 6 rfl <| kc 9 rfl <| kc 10 rfl <| kc 11 rfl <| kc 41 rfl <| kn) rfl ?_
        refine T_if h rfl (fun b41 h => ?_) (fun b41 h => ?_)
        · skip
          refine T_exit ?_
          refine T_keep (kc 1 rfl <| kc 2 rfl <| kc 3 rfl <| kc 6 rfl <| kc 9 rfl <| kc 10 rfl <| kn) rfl ?_
          refine T_reg ?_
          refine R_q _ rfl (v_move (ov rfl)) ?_
          refine R_q _ rfl (v_add (ov rfl) (ov rfl) rfl) ?_
          refine R_q _ rfl (v_assign (ov rfl)) ?_
          refine R_nil ?_
          exact ⟨(i64 (i + 1)), h, Ent.sel [some 0] (sd 1 rfl rfl <| sd 2 rfl rfl <| sd 3 rfl rfl <| sr 6 rfl (.ptr _ _ _ rfl) <| sd 9 rfl rfl <| sd 10 rfl rfl <| sn) (.cons rfl (ro1 (by exact tZ_44.symm) (rld rfl)) <| .nil) rfl rfl⟩
        · skip
          refine T_skip ?_
          refine T_seq ?_
          refine T_keep (kc 1 rfl <| kc 2 rfl <| kc 3 rfl <| kc 6 rfl <| kc 9 rfl <| kc 10 rfl <| kc 11 rfl <| kn) rfl ?_
          refine T_seq (T_reg ?_)
          refine R_q _ rfl (v_move (ov rfl)) ?_
          refine R_q _ rfl (v_eql (ov rfl) (ov rfl)) ?_
          refine R_nil ?_
          refine T_keep (kc 1 rfl <| kc 2 rfl <| kc 3 rfl <| kc 6 rfl <| kc 9 rfl <| kc 10 rfl <| kc 11 rfl <| kc 43 rfl <| kn) rfl ?_
          refine T_if h rfl (fun b43 h => ?_) (fun b43 h => ?_)
          · skip
            refine T_exit ?_
            rw [lx h] at ho1
            replace h := ho1
            exact ⟨(), h, Ent.sel [some 0] (sr 6 rfl (.ptr _ _ _ rfl) <| sn) (.cons rfl (ro1 (by exact tZ_44.symm) (rld rfl)) <| .nil) rfl rfl⟩
          · skip
            refine T_skip ?_
            refine T_keep (kc 1 rfl <| kc 2 rfl <| kc 3 rfl <| kc 6 rfl <| kc 9 rfl <| kc 10 rfl <| kc 11 rfl <| kn) rfl ?_
            refine T_seq (T_draw (cw := md0) (by kernel_rfl) ?_)
            refine D_read 0 _ rfl (by kernel_rfl) rfl rfl rfl ExtW.refl (fun hp' hx => v_fieldR (ov rfl) tF24_1) ?_
            refine D_read 1 _ rfl (by kernel_rfl) rfl rfl rfl ExtW.refl (fun hp' hx => v_loadS_r (ov rfl) tS22 rfl) ?_
            refine D_free 2 _ rfl (by kernel_rfl) rfl rfl (fun hp' => v_move (ov rfl)) ?_
            refine D_free 3 _ rfl (by kernel_rfl) rfl rfl (fun hp' => v_move (ov rfl)) ?_
            refine D_free 4 _ rfl (by kernel_rfl) rfl rfl (fun hp' => v_sub (ov rfl) (ov rfl) rfl) ?_
            obtain ⟨x3, h_x3, h⟩ := bnd h
            refine D_read 5 _ rfl (by kernel_rfl) rfl rfl rfl ExtW.refl (fun hp' hx => v_ixSG (ov rfl) (ov rfl) tL25 h_x3) ?_
            refine D_read 6 _ rfl (by kernel_rfl) rfl rfl rfl ExtW.refl (fun hp' hx => v_loadS_r (ov rfl) tS3 rfl) ?_
            obtain ⟨x4, h_x4, h⟩ := bnd h
            refine D_read 7 _ rfl (by kernel_rfl) rfl rfl rfl ExtW.refl (fun hp' hx => v_ixSG (ov rfl) (ov rfl) tL22 h_x4) ?_
            refine D_read 8 _ rfl (by kernel_rfl) rfl rfl rfl ExtW.refl (fun hp' hx => v_loadA_r (ov rfl) tA27 rfl rfl) ?_
            refine D_one 9 _ _ rfl (by kernel_rfl) rfl rfl (fun _ => Ext.app) (fun h => by cases h) (w_alloc (row := [_, _, _]) 2 rfl tZ27 rfl tZ_27) ?_
            refine D_one 10 _ _ rfl (by kernel_rfl) rfl rfl (fun h => by cases h) (fun h => by cases h) (w_store (ov rfl) (ov rfl) (cells_agg tA27 rfl) rfl rfl rfl (Nat.le_of_ble_eq_true rfl) (cell1_all rfl) rfl) ?_
            refine D_done (by kernel_rfl) ?_
            refine T_seq ?_
            refine T_keep (kc 1 rfl <| kc 2 rfl <| kc 6 rfl <| kc 11 rfl <| kc 12 rfl <| kn) rfl ?_
            refine T_seq (T_reg ?_)
            refine R_q _ rfl (v_fieldP (ov rfl) rfl rfl tF27_0) ?_
            refine R_q _ rfl (v_loadS (ov rfl) rfl rfl rfl tS3 rfl) ?_
            refine R_q _ rfl (v_fieldP (ov rfl) rfl rfl tF27_0) ?_
            refine R_q _ rfl (v_loadS (ov rfl) rfl rfl rfl tS3 rfl) ?_
            refine R_q _ rfl (v_sub (ov rfl) (ov rfl) rfl) ?_
            refine R_q _ rfl (v_move (ov rfl)) ?_
            refine R_q _ rfl (v_gtr (ov rfl) (ov rfl)) ?_
            refine R_nil ?_
            refine T_keep (kc 1 rfl <| kc 6 rfl <| kc 11 rfl <| kc 12 rfl <| kc 59 rfl <| kn) rfl ?_
            refine T_if h rfl (fun b59 h => ?_) (fun b59 h => ?_)
            · skip
              refine T_exit ?_
              rw [lx h] at ho1
              replace h := ho1
              exact ⟨(), h, Ent.sel [some 0] (sr 6 rfl (.ptr _ _ _ rfl) <| sn) (.cons rfl (ro1 (by exact tZ_44.symm) (rld rfl)) <| .nil) rfl rfl⟩
            · skip
              refine T_skip ?_
              refine T_keep (kc 1 rfl <| kc 6 rfl <| kc 11 rfl <| kc 12 rfl <| kn) rfl ?_
              refine T_seq (T_draw (cw := md0) (by kernel_rfl) ?_)
              refine D_read 0 _ rfl (by kernel_rfl) rfl rfl rfl ExtW.refl (fun hp' hx => v_fieldP (ov rfl) (hx.get rfl rfl) rfl tF27_1) ?_
              refine D_read 1 _ rfl (by kernel_rfl) rfl rfl rfl ExtW.refl (fun hp' hx => v_loadS (ov rfl) (hx.get rfl rfl) rfl rfl tS3 rfl) ?_
              refine D_read 2 _ rfl (by kernel_rfl) rfl rfl rfl ExtW.refl (fun hp' hx => v_fieldP (ov rfl) (hx.get rfl rfl) rfl tF27_0) ?_
              refine D_read 3 _ rfl (by kernel_rfl) rfl rfl rfl ExtW.refl (fun hp' hx => v_loadS (ov rfl) (hx.get rfl rfl) rfl rfl tS3 rfl) ?_
              refine D_free 4 _ rfl (by kernel_rfl) rfl rfl (fun hp' => v_move (ov rfl)) ?_
              refine D_free 5 _ rfl (by kernel_rfl) rfl rfl (fun hp' => v_sub (ov rfl) (ov rfl) rfl) ?_
              obtain ⟨y2, h_y2, h⟩ := bnd h
              refine D_read 6 _ rfl (by kernel_rfl) rfl rfl rfl ExtW.refl (fun hp' hx => v_call (ok_ref5_product h_y2) (.cons (ov rfl) (.b rfl) <| .cons (ov rfl) (.b rfl) <| .nil)) ?_
              refine D_read 7 _ rfl (by kernel_rfl) rfl rfl rfl ExtW.refl (fun hp' hx => v_fieldP (ov rfl) (hx.get rfl rfl) rfl tF27_1) ?_
              refine D_read 8 _ rfl (by kernel_rfl) rfl rfl rfl ExtW.refl (fun hp' hx => v_loadS (ov rfl) (hx.get rfl rfl) rfl rfl tS3 rfl) ?_
              refine D_free 9 _ rfl (by kernel_rfl) rfl rfl (fun hp' => v_move (ov rfl)) ?_
              refine D_read 10 _ rfl (by kernel_rfl) rfl rfl rfl ExtW.refl (fun hp' hx => v_fieldP (ov rfl) (hx.get rfl rfl) rfl tF27_0) ?_
              refine D_read 11 _ rfl (by kernel_rfl) rfl rfl rfl ExtW.refl (fun hp' hx => v_loadS (ov rfl) (hx.get rfl rfl) rfl rfl tS3 rfl) ?_
              refine D_free 12 _ rfl (by kernel_rfl) rfl rfl (fun hp' => v_sub (ov rfl) (ov rfl) rfl) ?_
              obtain ⟨y3, h_y3, h⟩ := bnd h
              refine D_read 13 _ rfl (by kernel_rfl) rfl rfl rfl ExtW.refl (fun hp' hx => v_call (ok_ref5_product h_y3) (.cons (ov rfl) (.b rfl) <| .cons (ov rfl) (.b rfl) <| .nil)) ?_
              obtain ⟨y4, h_y4, h⟩ := bnd h
              refine D_read 14 _ rfl (by kernel_rfl) rfl rfl rfl ExtW.refl (fun hp' hx => v_call (ok_ref5_add h_y4) (.cons (ov rfl) (.aggB rfl) <| .cons (ov rfl) (.aggB rfl) <| .nil)) ?_
              refine D_read 15 _ rfl (by kernel_rfl) rfl rfl rfl ExtW.refl (fun hp' hx => v_fieldP (ov rfl) (hx.get rfl rfl) rfl tF27_0) ?_
              refine D_read 16 _ rfl (by kernel_rfl) rfl rfl rfl ExtW.refl (fun hp' hx => v_loadS (ov rfl) (hx.get rfl rfl) rfl rfl tS3 rfl) ?_
              refine D_read 17 _ rfl (by kernel_rfl) rfl rfl rfl ExtW.refl (fun hp' hx => v_fieldP (ov rfl) (hx.get rfl rfl) rfl tF27_0) ?_
              refine D_read 18 _ rfl (by kernel_rfl) rfl rfl rfl ExtW.refl (fun hp' hx => v_loadS (ov rfl) (hx.get rfl rfl) rfl rfl tS3 rfl) ?_
              refine D_free 19 _ rfl (by kernel_rfl) rfl rfl (fun hp' => v_sub (ov rfl) (ov rfl) rfl) ?_
              obtain ⟨y5, h_y5, h⟩ := bnd h
              refine D_read 20 _ rfl (by kernel_rfl) rfl rfl rfl ExtW.refl (fun hp' hx => v_call (ok_ref5_ratio h_y5) (.cons (ov rfl) (.aggB rfl) <| .cons (ov rfl) (.b rfl) <| .nil)) ?_
              refine D_free 21 _ rfl (by kernel_rfl) rfl rfl (fun hp' => v_move (ov rfl)) ?_
              refine D_free 22 _ rfl (by kernel_rfl) rfl rfl (fun hp' => v_extract (ov rfl) rfl) ?_
              refine D_free 23 _ rfl (by kernel_rfl) rfl rfl (fun hp' => v_extract (ov rfl) rfl) ?_
              refine D_one 24 _ _ rfl (by kernel_rfl) rfl rfl (fun _ => Ext.app) (fun h => by cases h) (w_alloc (row := [_, _]) 3 rfl tZ44 rfl tZ_44) ?_
              refine D_one 25 _ _ rfl (by kernel_rfl) rfl rfl (fun h => by cases h) (fun h => by cases h) (w_store (ov rfl) (ov rfl) (cells_agg tA44 rfl) rfl rfl rfl (Nat.le_of_ble_eq_true rfl) (cell1_all rfl) rfl) ?_
              refine D_free 26 _ rfl (by kernel_rfl) rfl rfl (fun hp' => v_assign (ov rfl)) ?_
              refine D_done (by kernel_rfl) ?_
              refine T_keep (kc 6 rfl <| kc 13 rfl <| kc 14 rfl <| kn) rfl ?_
              refine T_seq (T_reg ?_)
              refine R_q _ rfl (v_loadA (ov rfl) rfl rfl rfl tA44 rfl rfl) ?_
              refine R_q _ rfl (v_move (ov rfl)) ?_
              refine R_q _ rfl (v_move (ov rfl)) ?_
              refine R_w _ _ rfl (w_store (ov rfl) (ov rfl) (cells_agg tA44 rfl) rfl rfl rfl (Nat.le_of_ble_eq_true rfl) (cell1_all rfl) rfl) ?_
              refine R_q _ rfl (v_assign (ov rfl)) ?_
              refine R_q _ rfl (v_assign (ov rfl)) ?_
              refine R_nil ?_
              rw [lx h] at ho1
              replace h := ho1
              obtain rfl := rt (v := (y5.1, y5.2, y5.2)) h
              refine T_ret (retq ?_ (.three (.agg rfl rfl rfl rfl tA44 rfl rfl (pwB rfl)) (.tmp rfl (Dat.view (.b rfl))) (.tmp rfl (Dat.view (.b rfl)))))
              rfl
    · skip
      refine T_exit ?_
      rw [lx h] at ho1
      replace h := ho1
      exact ⟨(), h, Ent.sel [some 0] (sr 6 rfl (.ptr _ _ _ rfl) <| sn) (.cons rfl (ro1 (by exact tZ_44.symm) (rld rfl)) <| .nil) rfl rfl⟩
  · skip
    replace h := elr h
    cases j
    replace h := t0i h
    refine t0T ?_
    refine T_seq (T_reg ?_)
    refine R_q _ rfl (v_build (ys := [_, _]) tPL44 tHA44 tZ44 (.nil) rfl) ?_
    refine R_w _ _ rfl (w_store (ov rfl) (ov rfl) (cells_agg tA44 rfl) rfl rfl rfl (Nat.le_of_ble_eq_true rfl) (cell1_all rfl) rfl) ?_
    refine R_q _ rfl (v_assign (ov rfl)) ?_
    refine R_q _ rfl (v_assign (ov rfl)) ?_
    refine R_nil ?_
    obtain rfl := rt (v := ((api_Ratio.mk 0 0), false, true)) h
    refine T_ret (retq ?_ (.three (.agg rfl rfl rfl rfl tA44 rfl rfl (pwB rfl)) (.tmp rfl (Dat.view (.b rfl))) (.tmp rfl (Dat.view (.b rfl)))))
    rfl

theorem ok_ref5_Between {s : api_Series} {at_ : Int} {long : Int} {r : api_Ratio × Bool × Int} (h : ref5_Between s at_ long = some r) :
    CSpec Try.prog gl0 20 [.agg [.int .i64 s.Den, .sl 27 (List.map R27 s.Samples)], .int .i64 at_, .int .i64 long] (.tuple [.agg [.int .i64 r.1.Num, .int .i64 r.1.Den], .bool r.2.1, .int .i64 r.2.2]) := by
  unfold ref5_Between at h
  replace h := bnd0 h
  refine spec_of (by kernel_rfl) Try.func20 rfl rfl ?_
  intro w0 A
  refine T_seq (T_reg ?_)
  refine R_q _ rfl (v_boxD (cva (ov rfl)) rfl tZ_24 rfl) ?_
  refine R_w _ _ rfl (w_alloc (row := [_, _]) 0 rfl tZ44 rfl tZ_44) ?_
  refine R_q _ rfl (v_assign (ov rfl)) ?_
  refine R_q _ rfl (v_assign (ov rfl)) ?_
  refine R_nil ?_
  refine T_seq ?_
  refine T_keep (kc 1 rfl <| kc 2 rfl <| kc 3 rfl <| kc 6 rfl <| kn) rfl ?_
  refine T_seq (T_reg ?_)
  refine R_q _ rfl (v_loadA_r (ov rfl) tA24 rfl rfl) ?_
  obtain ⟨y, h_y, h⟩ := bnd h
  refine R_q _ rfl (v_call (ok_ref5_Check h_y) (.cons (ov rfl) (.aggB rfl) <| .nil)) ?_
  refine R_q _ rfl (v_assign (ov rfl)) ?_
  refine R_nil ?_
  refine T_keep (kc 1 rfl <| kc 2 rfl <| kc 3 rfl <| kc 6 rfl <| kc 9 rfl <| kn) rfl ?_
  refine T_seq (T_reg ?_)
  refine R_q _ rfl (v_move (ov rfl)) ?_
  refine R_q _ rfl (v_neq (ov rfl) (ov rfl)) ?_
  refine R_nil ?_
  refine T_keep (kc 1 rfl <| kc 2 rfl <| kc 3 rfl <| kc 6 rfl <| kc 9 rfl <| kc 16 rfl <| kn) rfl ?_
  refine T_if h rfl (fun b16 h => ?_) (fun b16 h => ?_)
  · skip
    refine T_keep (kc 6 rfl <| kc 9 rfl <| kn) rfl ?_
    refine T_seq (T_reg ?_)
    refine R_q _ rfl (v_build (ys := [_, _]) tPL44 tHA44 tZ44 (.nil) rfl) ?_
    refine R_q _ rfl (v_move (ov rfl)) ?_
    refine R_w _ _ rfl (w_store (ov rfl) (ov rfl) (cells_agg tA44 rfl) rfl rfl rfl (Nat.le_of_ble_eq_true rfl) (cell1_all rfl) rfl) ?_
    refine R_q _ rfl (v_assign (ov rfl)) ?_
    refine R_q _ rfl (v_assign (ov rfl)) ?_
    refine R_nil ?_
    obtain rfl := rt (v := ((api_Ratio.mk 0 0), false, y)) h
    refine T_ret (retq ?_ (.three (.agg rfl rfl rfl rfl tA44 rfl rfl (pwB rfl)) (.tmp rfl (Dat.view (.b rfl))) (.tmp rfl (Dat.view (.b rfl)))))
    rfl
  · skip
    refine T_skip ?_
    refine T_seq ?_
    refine T_keep (kc 1 rfl <| kc 2 rfl <| kc 3 rfl <| kc 6 rfl <| kn) rfl ?_
    refine T_seq (T_reg ?_)
    refine R_q _ rfl (v_move (ov rfl)) ?_
    obtain ⟨y2, h_y2, h⟩ := bnd h
    refine R_q _ rfl (v_call (ok_ref5_outside h_y2) (.cons (ov rfl) (.b rfl) <| .cons (ov rfl) (.b rfl) <| .cons (ov rfl) (.b rfl) <| .nil)) ?_
    refine R_q _ rfl (v_move (ov rfl)) ?_
    refine R_q _ rfl (.guarded (y2 == false) rfl rfl rfl rfl fun h => v_move (ov rfl)) ?_
    obtain ⟨y3, h_y3, h⟩ := bnd h
    refine R_q _ rfl (.guarded (y2 == false) rfl rfl rfl rfl fun h => v_call (ok_ref5_outside (gdT h_y3 h)) (.cons (ow rfl h) (.b rfl) <| .cons (ov rfl) (.b rfl) <| .cons (ov rfl) (.b rfl) <| .nil)) ?_
    refine R_q _ rfl (v_or (ov rfl) (fun hp => ow rfl (gF hp))) ?_
    refine R_nil ?_
    refine T_keep (kc 1 rfl <| kc 2 rfl <| kc 3 rfl <| kc 6 rfl <| kc 24 rfl <| kn) rfl ?_
    refine T_if h rfl (fun b24 h => ?_) (fun b24 h => ?_)
    · skip
      refine T_keep (kc 6 rfl <| kn) rfl ?_
      refine T_seq (T_reg ?_)
      refine R_q _ rfl (v_build (ys := [_, _]) tPL44 tHA44 tZ44 (.nil) rfl) ?_
      refine R_w _ _ rfl (w_store (ov rfl) (ov rfl) (cells_agg tA44 rfl) rfl rfl rfl (Nat.le_of_ble_eq_true rfl) (cell1_all rfl) rfl) ?_
      refine R_q _ rfl (v_assign (ov rfl)) ?_
      refine R_q _ rfl (v_assign (ov rfl)) ?_
      refine R_nil ?_
      obtain rfl := rt (v := ((api_Ratio.mk 0 0), false, 9)) h
      refine T_ret (retq ?_ (.three (.agg rfl rfl rfl rfl tA44 rfl rfl (pwB rfl)) (.tmp rfl (Dat.view (.b rfl))) (.tmp rfl (Dat.view (.b rfl)))))
      rfl
    · skip
      refine T_skip ?_
      refine T_keep (kc 1 rfl <| kc 2 rfl <| kc 3 rfl <| kc 6 rfl <| kn) rfl ?_
      refine T_seq (T_reg ?_)
      refine R_q _ rfl (v_loadA_r (ov rfl) tA24 rfl rfl) ?_
      refine R_q _ rfl (v_move (ov rfl)) ?_
      refine R_q _ rfl (v_move (ov rfl)) ?_
      obtain ⟨y4, h_y4, h⟩ := bnd h
      refine R_q _ rfl (v_call (ok_ref5_between h_y4) (.cons (ov rfl) (.aggB rfl) <| .cons (ov rfl) (.b rfl) <| .cons (ov rfl) (.b rfl) <| .nil)) ?_
      refine R_q _ rfl (v_move (ov rfl)) ?_
      refine R_q _ rfl (v_extract (ov rfl) rfl) ?_
      refine R_q _ rfl (v_extract (ov rfl) rfl) ?_
      refine R_q _ rfl (v_extract (ov rfl) rfl) ?_
      refine R_w _ _ rfl (w_alloc (row := [_, _]) 1 rfl tZ44 rfl tZ_44) ?_
      refine R_w _ _ rfl (w_store (ov rfl) (ov rfl) (cells_agg tA44 rfl) rfl rfl rfl (Nat.le_of_ble_eq_true rfl) (cell1_all rfl) rfl) ?_
      refine R_q _ rfl (v_assign (ov rfl)) ?_
      refine R_q _ rfl (v_assign (ov rfl)) ?_
      refine R_nil ?_
      refine T_keep (kc 6 rfl <| kc 10 rfl <| kc 11 rfl <| kn) rfl ?_
      refine T_seq (T_reg ?_)
      refine R_q _ rfl (v_loadA (ov rfl) rfl rfl rfl tA44 rfl rfl) ?_
      refine R_q _ rfl (v_move (ov rfl)) ?_
      refine R_w _ _ rfl (w_store (ov rfl) (ov rfl) (cells_agg tA44 rfl) rfl rfl rfl (Nat.le_of_ble_eq_true rfl) (cell1_all rfl) rfl) ?_
      refine R_q _ rfl (v_assign (ov rfl)) ?_
      refine R_q _ rfl (v_assign (ov rfl)) ?_
      refine R_nil ?_
      obtain rfl := rt (v := (y4.1, y4.2.1, 0)) h
      refine T_ret (retq ?_ (.three (.agg rfl rfl rfl rfl tA44 rfl rfl (pwB rfl)) (.tmp rfl (Dat.view (.b rfl))) (.tmp rfl (Dat.view (.b rfl)))))
      rfl

theorem ok_ref5_Promised {s : api_Series} {at_ : Int} {long : Int} {r : Bool} (h : ref5_Promised s at_ long = some r) :
    CSpec Try.prog gl0 21 [.agg [.int .i64 s.Den, .sl 27 (List.map R27 s.Samples)], .int .i64 at_, .int .i64 long] (.bool r) := by
  unfold ref5_Promised at h
  replace h := bnd0 h
  refine spec_of (by kernel_rfl) Try.func21 rfl rfl ?_
  intro w0 A
  refine T_seq (T_reg ?_)
  refine R_q _ rfl (v_boxD (cva (ov rfl)) rfl tZ_24 rfl) ?_
  refine R_q _ rfl (v_assign (ov rfl)) ?_
  refine R_nil ?_
  refine T_seq ?_
  refine T_keep (kc 1 rfl <| kc 2 rfl <| kc 3 rfl <| kn) rfl ?_
  refine T_seq (T_reg ?_)
  refine R_q _ rfl (v_loadA_r (ov rfl) tA24 rfl rfl) ?_
  obtain ⟨y, h_y, h⟩ := bnd h
  refine R_q _ rfl (v_call (ok_ref5_Check h_y) (.cons (ov rfl) (.aggB rfl) <| .nil)) ?_
  refine R_q _ rfl (v_neq (ov rfl) (ov rfl)) ?_
  refine R_q _ rfl (v_move (ov rfl)) ?_
  refine R_q _ rfl (.guarded ((!decide (y = 0)) == false) rfl rfl rfl rfl fun h => v_move (ov rfl)) ?_
  obtain ⟨y2, h_y2, h⟩ := bnd h
  refine R_q _ rfl (.guarded ((!decide (y = 0)) == false) rfl rfl rfl rfl fun h => v_call (ok_ref5_outside (gdT h_y2 h)) (.cons (ow rfl h) (.b rfl) <| .cons (ov rfl) (.b rfl) <| .cons (ov rfl) (.b rfl) <| .nil)) ?_
  refine R_q _ rfl (v_or (ov rfl) (fun hp => ow rfl (gF hp))) ?_
  refine R_q _ rfl (v_move (ov rfl)) ?_
  refine R_q _ rfl (.guarded (((!decide (y = 0)) || y2) == false) rfl rfl rfl rfl fun h => v_move (ov rfl)) ?_
  obtain ⟨y3, h_y3, h⟩ := bnd h
  refine R_q _ rfl (.guarded (((!decide (y = 0)) || y2) == false) rfl rfl rfl rfl fun h => v_call (ok_ref5_outside (gdT h_y3 h)) (.cons (ow rfl h) (.b rfl) <| .cons (ov rfl) (.b rfl) <| .cons (ov rfl) (.b rfl) <| .nil)) ?_
  refine R_q _ rfl (v_or (ov rfl) (fun hp => ow rfl (gF hp))) ?_
  refine R_nil ?_
  refine T_keep (kc 1 rfl <| kc 2 rfl <| kc 3 rfl <| kc 20 rfl <| kn) rfl ?_
  refine T_if h rfl (fun b20 h => ?_) (fun b20 h => ?_)
  · skip
    refine T_keep (kn) rfl ?_
    refine T_seq (T_reg ?_)
    refine R_q _ rfl (v_assign (ov rfl)) ?_
    refine R_nil ?_
    obtain rfl := rt (v := true) h
    refine T_ret (retq ?_ (.one (.tmp rfl (Dat.view (.b rfl)))))
    rfl
  · skip
    refine T_skip ?_
    refine T_keep (kc 1 rfl <| kc 2 rfl <| kc 3 rfl <| kn) rfl ?_
    refine T_seq (T_reg ?_)
    refine R_q _ rfl (v_loadA_r (ov rfl) tA24 rfl rfl) ?_
    refine R_q _ rfl (v_move (ov rfl)) ?_
    refine R_q _ rfl (v_move (ov rfl)) ?_
    obtain ⟨y4, h_y4, h⟩ := bnd h
    refine R_q _ rfl (v_call (ok_ref5_between h_y4) (.cons (ov rfl) (.aggB rfl) <| .cons (ov rfl) (.b rfl) <| .cons (ov rfl) (.b rfl) <| .nil)) ?_
    refine R_q _ rfl (v_move (ov rfl)) ?_
    refine R_q _ rfl (v_extract (ov rfl) rfl) ?_
    refine R_q _ rfl (v_extract (ov rfl) rfl) ?_
    refine R_q _ rfl (v_extract (ov rfl) rfl) ?_
    refine R_w _ _ rfl (w_alloc (row := [_, _]) 0 rfl tZ44 rfl tZ_44) ?_
    refine R_w _ _ rfl (w_store (ov rfl) (ov rfl) (cells_agg tA44 rfl) rfl rfl rfl (Nat.le_of_ble_eq_true rfl) (cell1_all rfl) rfl) ?_
    refine R_q _ rfl (v_assign (ov rfl)) ?_
    refine R_q _ rfl (v_assign (ov rfl)) ?_
    refine R_nil ?_
    refine T_keep (kc 9 rfl <| kn) rfl ?_
    refine T_seq (T_reg ?_)
    refine R_q _ rfl (v_move (ov rfl)) ?_
    refine R_q _ rfl (v_assign (ov rfl)) ?_
    refine R_nil ?_
    obtain rfl := rt (v := y4.2.2) h
    refine T_ret (retq ?_ (.one (.tmp rfl (Dat.view (.b rfl)))))
    rfl

theorem ok_law5_holds  {r : Bool} (h : law5_holds  = some r) :
    CSpec Try.prog gl0 9 [] (.bool r) := by
  unfold law5_holds at h
  replace h := bnd0 h
  refine spec_of (by kernel_rfl) Try.func9 rfl rfl ?_
  intro w0 A
  refine T_seq (T_reg ?_)
  refine R_q _ rfl (v_assign (ov rfl)) ?_
  refine R_nil ?_
  refine T_keep (kn) rfl ?_
  refine T_seq (T_reg ?_)
  refine R_q _ rfl (v_build (ys := [_, _, _]) tPL27 tHA27 tZ27 (.cons (cvs (ov rfl) (cell1_b rfl)) <| .cons (cvs (ov rfl) (cell1_b rfl)) <| .cons (cvs (ov rfl) (cell1_b rfl)) <| .nil) rfl) ?_
  refine R_q (.sl 27 (List.map R27 ([(api_Sample.mk 5 7 4)] : List api_Sample))) rfl (v_lit tL22 (.cons (cva (ov rfl)) rfl (pwD rfl) <| .nil) rfl rfl) ?_
  refine R_q _ rfl (v_build (ys := [_, _]) tPL24 tHA24 tZ24 (.cons (cvs (ov rfl) (cell1_b rfl)) <| .cons (cvs (ov rfl) (cell1_b rfl)) <| .nil) rfl) ?_
  obtain ⟨y, h_y, h⟩ := bnd h
  refine R_q _ rfl (v_call (ok_series_Hold h_y) (.cons (ov rfl) (.aggB rfl) <| .cons (ov rfl) (.b rfl) <| .cons (ov rfl) (.b rfl) <| .nil)) ?_
  refine R_q _ rfl (v_move (ov rfl)) ?_
  refine R_q _ rfl (v_extract (ov rfl) rfl) ?_
  refine R_q _ rfl (v_extract (ov rfl) rfl) ?_
  refine R_q _ rfl (v_extract (ov rfl) rfl) ?_
  refine R_w _ _ rfl (w_alloc (row := [_, _, _]) 0 rfl tZ27 rfl tZ_27) ?_
  refine R_w _ _ rfl (w_store (ov rfl) (ov rfl) (cells_agg tA27 rfl) rfl rfl rfl (Nat.le_of_ble_eq_true rfl) (cell1_all rfl) rfl) ?_
  refine R_q _ rfl (v_assign (ov rfl)) ?_
  refine R_q _ rfl (v_assign (ov rfl)) ?_
  refine R_nil ?_
  refine T_keep (kc 1 rfl <| kc 2 rfl <| kc 3 rfl <| kn) rfl ?_
  refine T_seq (T_reg ?_)
  refine R_q _ rfl (v_move (ov rfl)) ?_
  refine R_q _ rfl (v_move (ov rfl)) ?_
  refine R_q _ rfl (.guarded (y.2.1 == true) rfl rfl rfl rfl fun h => v_move (ov rfl)) ?_
  refine R_q _ rfl (.guarded (y.2.1 == true) rfl rfl rfl rfl fun h => v_eql (ow rfl h) (ov rfl)) ?_
  refine R_q _ rfl (v_and (ov rfl) (fun hp => ow rfl (gT hp))) ?_
  refine R_q _ rfl (v_move (ov rfl)) ?_
  refine R_q _ rfl (.guarded ((y.2.1 && (decide (y.2.2 = 0))) == true) rfl rfl rfl rfl fun h => v_loadA (ov rfl) rfl rfl rfl tA27 rfl rfl) ?_
  refine R_q _ rfl (.guarded ((y.2.1 && (decide (y.2.2 = 0))) == true) rfl rfl rfl rfl fun h => v_build (ys := [_, _, _]) tPL27 tHA27 tZ27 (.cons (cvs (ov rfl) (cell1_b rfl)) <| .cons (cvs (ov rfl) (cell1_b rfl)) <| .cons (cvs (ov rfl) (cell1_b rfl)) <| .nil) rfl) ?_
  refine R_q _ rfl (.guarded ((y.2.1 && (decide (y.2.2 = 0))) == true) rfl rfl rfl rfl fun h => v_eqlS tFS27 (ow rfl h) (ow rfl h) (.aggB rfl) (.aggB rfl) rfl rfl) ?_
  refine R_q _ rfl (v_and (ov rfl) (fun hp => ow rfl (gT hp))) ?_
  refine R_q _ rfl (v_assign (ov rfl)) ?_
  refine R_nil ?_
  obtain rfl := rt (v := ((y.2.1 && (decide (y.2.2 = 0))) && (decide (y.1.At = 5) && (decide (y.1.N = 7) && (decide (y.1.Mark = 4) && true))))) h
  refine T_ret (retq ?_ (.one (.tmp rfl (Dat.view (.b rfl)))))
  rfl

theorem ok_law5_SeriesHoldMatchesSpec {s : api_Series} {at_ : Int} {long : Int} {r : Bool} (h : law5_SeriesHoldMatchesSpec s at_ long = some r) :
    CSpec Try.prog gl0 6 [.agg [.int .i64 s.Den, .sl 27 (List.map R27 s.Samples)], .int .i64 at_, .int .i64 long] (.bool r) := by
  unfold law5_SeriesHoldMatchesSpec at h
  replace h := bnd0 h
  refine spec_of (by kernel_rfl) Try.func6 rfl rfl ?_
  intro w0 A
  refine T_seq (T_reg ?_)
  refine R_q _ rfl (v_boxD (cva (ov rfl)) rfl tZ_24 rfl) ?_
  refine R_q _ rfl (v_assign (ov rfl)) ?_
  refine R_nil ?_
  refine T_keep (kc 1 rfl <| kc 2 rfl <| kc 3 rfl <| kn) rfl ?_
  refine T_seq (T_reg ?_)
  refine R_q _ rfl (v_loadA_r (ov rfl) tA24 rfl rfl) ?_
  refine R_q _ rfl (v_move (ov rfl)) ?_
  refine R_q _ rfl (v_move (ov rfl)) ?_
  obtain ⟨y, h_y, h⟩ := bnd h
  refine R_q _ rfl (v_call (ok_series_Hold h_y) (.cons (ov rfl) (.aggB rfl) <| .cons (ov rfl) (.b rfl) <| .cons (ov rfl) (.b rfl) <| .nil)) ?_
  refine R_q _ rfl (v_move (ov rfl)) ?_
  refine R_q _ rfl (v_extract (ov rfl) rfl) ?_
  refine R_q _ rfl (v_extract (ov rfl) rfl) ?_
  refine R_q _ rfl (v_extract (ov rfl) rfl) ?_
  refine R_w _ _ rfl (w_alloc (row := [_, _, _]) 0 rfl tZ27 rfl tZ_27) ?_
  refine R_w _ _ rfl (w_store (ov rfl) (ov rfl) (cells_agg tA27 rfl) rfl rfl rfl (Nat.le_of_ble_eq_true rfl) (cell1_all rfl) rfl) ?_
  refine R_q _ rfl (v_assign (ov rfl)) ?_
  refine R_q _ rfl (v_assign (ov rfl)) ?_
  refine R_nil ?_
  refine T_keep (kc 1 rfl <| kc 2 rfl <| kc 3 rfl <| kc 7 rfl <| kc 8 rfl <| kc 9 rfl <| kn) rfl ?_
  refine T_seq (T_reg ?_)
  refine R_q _ rfl (v_loadA_r (ov rfl) tA24 rfl rfl) ?_
  refine R_q _ rfl (v_move (ov rfl)) ?_
  refine R_q _ rfl (v_move (ov rfl)) ?_
  obtain ⟨y2, h_y2, h⟩ := bnd h
  refine R_q _ rfl (v_call (ok_ref5_Hold h_y2) (.cons (ov rfl) (.aggB rfl) <| .cons (ov rfl) (.b rfl) <| .cons (ov rfl) (.b rfl) <| .nil)) ?_
  refine R_q _ rfl (v_move (ov rfl)) ?_
  refine R_q _ rfl (v_extract (ov rfl) rfl) ?_
  refine R_q _ rfl (v_extract (ov rfl) rfl) ?_
  refine R_q _ rfl (v_extract (ov rfl) rfl) ?_
  refine R_w _ _ rfl (w_alloc (row := [_, _, _]) 1 rfl tZ27 rfl tZ_27) ?_
  refine R_w _ _ rfl (w_store (ov rfl) (ov rfl) (cells_agg tA27 rfl) rfl rfl rfl (Nat.le_of_ble_eq_true rfl) (cell1_all rfl) rfl) ?_
  refine R_q _ rfl (v_assign (ov rfl)) ?_
  refine R_q _ rfl (v_assign (ov rfl)) ?_
  refine R_nil ?_
  refine T_seq ?_
  refine T_keep (kc 1 rfl <| kc 2 rfl <| kc 3 rfl <| kc 7 rfl <| kc 8 rfl <| kc 9 rfl <| kc 10 rfl <| kc 11 rfl <| kc 12 rfl <| kn) rfl ?_
  refine T_seq (T_reg ?_)
  refine R_q _ rfl (v_loadA (ov rfl) rfl rfl rfl tA27 rfl rfl) ?_
  refine R_q _ rfl (v_loadA (ov rfl) rfl rfl rfl tA27 rfl rfl) ?_
  refine R_q _ rfl (v_neqS tFS27 (ov rfl) (ov rfl) (.aggB rfl) (.aggB rfl) rfl rfl) ?_
  refine R_q _ rfl (v_move (ov rfl)) ?_
  refine R_q _ rfl (.guarded ((!(decide (y.1.At = y2.1.At) && (decide (y.1.N = y2.1.N) && (decide (y.1.Mark = y2.1.Mark) && true)))) == false) rfl rfl rfl rfl fun h => v_move (ov rfl)) ?_
  refine R_q _ rfl (.guarded ((!(decide (y.1.At = y2.1.At) && (decide (y.1.N = y2.1.N) && (decide (y.1.Mark = y2.1.Mark) && true)))) == false) rfl rfl rfl rfl fun h => v_move (ov rfl)) ?_
  refine R_q _ rfl (.guarded ((!(decide (y.1.At = y2.1.At) && (decide (y.1.N = y2.1.N) && (decide (y.1.Mark = y2.1.Mark) && true)))) == false) rfl rfl rfl rfl fun h => tBool_eq .neq (by simp) (ow rfl h) (ow rfl h) tB4) ?_
  refine R_q _ rfl (v_or (ov rfl) (fun hp => ow rfl (gF hp))) ?_
  refine R_q _ rfl (v_move (ov rfl)) ?_
  refine R_q _ rfl (.guarded (((!(decide (y.1.At = y2.1.At) && (decide (y.1.N = y2.1.N) && (decide (y.1.Mark = y2.1.Mark) && true)))) || (!(y.2.1 == y2.2.1))) == false) rfl rfl rfl rfl fun h => v_move (ov rfl)) ?_
  refine R_q _ rfl (.guarded (((!(decide (y.1.At = y2.1.At) && (decide (y.1.N = y2.1.N) && (decide (y.1.Mark = y2.1.Mark) && true)))) || (!(y.2.1 == y2.2.1))) == false) rfl rfl rfl rfl fun h => v_move (ov rfl)) ?_
  refine R_q _ rfl (.guarded (((!(decide (y.1.At = y2.1.At) && (decide (y.1.N = y2.1.N) && (decide (y.1.Mark = y2.1.Mark) && true)))) || (!(y.2.1 == y2.2.1))) == false) rfl rfl rfl rfl fun h => v_neq (ow rfl h) (ow rfl h)) ?_
  refine R_q _ rfl (v_or (ov rfl) (fun hp => ow rfl (gF hp))) ?_
  refine R_nil ?_
  refine T_keep (kc 1 rfl <| kc 2 rfl <| kc 3 rfl <| kc 43 rfl <| kn) rfl ?_
  refine T_if h rfl (fun b43 h => ?_) (fun b43 h => ?_)
  · skip
    refine T_keep (kn) rfl ?_
    refine T_seq (T_reg ?_)
    refine R_q _ rfl (v_assign (ov rfl)) ?_
    refine R_nil ?_
    obtain rfl := rt (v := false) h
    refine T_ret (retq ?_ (.one (.tmp rfl (Dat.view (.b rfl)))))
    rfl
  · skip
    refine T_skip ?_
    refine T_keep (kc 1 rfl <| kc 2 rfl <| kc 3 rfl <| kn) rfl ?_
    refine T_seq (T_reg ?_)
    refine R_q _ rfl (v_loadA_r (ov rfl) tA24 rfl rfl) ?_
    refine R_q _ rfl (v_move (ov rfl)) ?_
    refine R_q _ rfl (v_move (ov rfl)) ?_
    obtain ⟨y3, h_y3, h⟩ := bnd h
    refine R_q _ rfl (v_call (ok_series_Between h_y3) (.cons (ov rfl) (.aggB rfl) <| .cons (ov rfl) (.b rfl) <| .cons (ov rfl) (.b rfl) <| .nil)) ?_
    refine R_q _ rfl (v_move (ov rfl)) ?_
    refine R_q _ rfl (v_extract (ov rfl) rfl) ?_
    refine R_q _ rfl (v_extract (ov rfl) rfl) ?_
    refine R_q _ rfl (v_extract (ov rfl) rfl) ?_
    refine R_w _ _ rfl (w_alloc (row := [_, _]) 2 rfl tZ44 rfl tZ_44) ?_
    refine R_w _ _ rfl (w_store (ov rfl) (ov rfl) (cells_agg tA44 rfl) rfl rfl rfl (Nat.le_of_ble_eq_true rfl) (cell1_all rfl) rfl) ?_
    refine R_q _ rfl (v_assign (ov rfl)) ?_
    refine R_q _ rfl (v_assign (ov rfl)) ?_
    refine R_nil ?_
    refine T_keep (kc 1 rfl <| kc 2 rfl <| kc 3 rfl <| kc 8 rfl <| kc 9 rfl <| kc 13 rfl <| kn) rfl ?_
    refine T_seq (T_reg ?_)
    refine R_q _ rfl (v_loadA_r (ov rfl) tA24 rfl rfl) ?_
    refine R_q _ rfl (v_move (ov rfl)) ?_
    refine R_q _ rfl (v_move (ov rfl)) ?_
    obtain ⟨y4, h_y4, h⟩ := bnd h
    refine R_q _ rfl (v_call (ok_ref5_Between h_y4) (.cons (ov rfl) (.aggB rfl) <| .cons (ov rfl) (.b rfl) <| .cons (ov rfl) (.b rfl) <| .nil)) ?_
    refine R_q _ rfl (v_move (ov rfl)) ?_
    refine R_q _ rfl (v_extract (ov rfl) rfl) ?_
    refine R_q _ rfl (v_extract (ov rfl) rfl) ?_
    refine R_q _ rfl (v_extract (ov rfl) rfl) ?_
    refine R_w _ _ rfl (w_alloc (row := [_, _]) 3 rfl tZ44 rfl tZ_44) ?_
    refine R_w _ _ rfl (w_store (ov rfl) (ov rfl) (cells_agg tA44 rfl) rfl rfl rfl (Nat.le_of_ble_eq_true rfl) (cell1_all rfl) rfl) ?_
    refine R_q _ rfl (v_assign (ov rfl)) ?_
    refine R_q _ rfl (v_assign (ov rfl)) ?_
    refine R_nil ?_
    refine T_keep (kc 1 rfl <| kc 2 rfl <| kc 3 rfl <| kc 8 rfl <| kc 9 rfl <| kc 11 rfl <| kc 12 rfl <| kc 13 rfl <| kc 14 rfl <| kn) rfl ?_
    refine T_seq (T_reg ?_)
    refine R_q _ rfl (v_loadA_r (ov rfl) tA24 rfl rfl) ?_
    refine R_q _ rfl (v_move (ov rfl)) ?_
    refine R_q _ rfl (v_move (ov rfl)) ?_
    obtain ⟨y5, h_y5, h⟩ := bnd h
    refine R_q _ rfl (v_call (ok_ref5_Promised h_y5) (.cons (ov rfl) (.aggB rfl) <| .cons (ov rfl) (.b rfl) <| .cons (ov rfl) (.b rfl) <| .nil)) ?_
    refine R_q _ rfl (v_not (ov rfl)) ?_
    refine R_q _ rfl (v_move (ov rfl)) ?_
    refine R_q _ rfl (.guarded ((!y5) == false) rfl rfl rfl rfl fun h => v_loadA (ov rfl) rfl rfl rfl tA44 rfl rfl) ?_
    refine R_q _ rfl (.guarded ((!y5) == false) rfl rfl rfl rfl fun h => v_loadA (ov rfl) rfl rfl rfl tA44 rfl rfl) ?_
    refine R_q _ rfl (.guarded ((!y5) == false) rfl rfl rfl rfl fun h => v_eqlS tFS44 (ow rfl h) (ow rfl h) (.aggB rfl) (.aggB rfl) rfl rfl) ?_
    refine R_q _ rfl (.guarded ((!y5) == false) rfl rfl rfl rfl fun h => v_move (ow rfl h)) ?_
    refine R_q _ rfl (.guarded2 (((!y5) == false) && ((decide (y3.1.Num = y4.1.Num) && (decide (y3.1.Den = y4.1.Den) && true)) == true)) rfl rfl rfl rfl fun h => v_move (ov rfl)) ?_
    refine R_q _ rfl (.guarded2 (((!y5) == false) && ((decide (y3.1.Num = y4.1.Num) && (decide (y3.1.Den = y4.1.Den) && true)) == true)) rfl rfl rfl rfl fun h => v_move (ov rfl)) ?_
    refine R_q _ rfl (.guarded2 (((!y5) == false) && ((decide (y3.1.Num = y4.1.Num) && (decide (y3.1.Den = y4.1.Den) && true)) == true)) rfl rfl rfl rfl fun h => tBool_eq .eql (by simp) (ow rfl h) (ow rfl h) tB4) ?_
    refine R_q _ rfl (.guarded ((!y5) == false) rfl rfl rfl rfl fun h => v_and (ow rfl h) (fun hp => ow rfl (gA h (gT hp)))) ?_
    refine R_q _ rfl (.guarded ((!y5) == false) rfl rfl rfl rfl fun h => v_move (ow rfl h)) ?_
    refine R_q _ rfl (.guarded2 (((!y5) == false) && (((decide (y3.1.Num = y4.1.Num) && (decide (y3.1.Den = y4.1.Den) && true)) && (y3.2.1 == y4.2.1)) == true)) rfl rfl rfl rfl fun h => v_move (ov rfl)) ?_
    refine R_q _ rfl (.guarded2 (((!y5) == false) && (((decide (y3.1.Num = y4.1.Num) && (decide (y3.1.Den = y4.1.Den) && true)) && (y3.2.1 == y4.2.1)) == true)) rfl rfl rfl rfl fun h => v_move (ov rfl)) ?_
    refine R_q _ rfl (.guarded2 (((!y5) == false) && (((decide (y3.1.Num = y4.1.Num) && (decide (y3.1.Den = y4.1.Den) && true)) && (y3.2.1 == y4.2.1)) == true)) rfl rfl rfl rfl fun h => v_eql (ow rfl h) (ow rfl h)) ?_
    refine R_q _ rfl (.guarded ((!y5) == false) rfl rfl rfl rfl fun h => v_and (ow rfl h) (fun hp => ow rfl (gA h (gT hp)))) ?_
    refine R_q _ rfl (v_or (ov rfl) (fun hp => ow rfl (gF hp))) ?_
    refine R_q _ rfl (v_move (ov rfl)) ?_
    obtain ⟨y6, h_y6, h⟩ := bnd h
    refine R_q _ rfl (.guarded (((!y5) || (((decide (y3.1.Num = y4.1.Num) && (decide (y3.1.Den = y4.1.Den) && true)) && (y3.2.1 == y4.2.1)) && (decide (y3.2.2 = y4.2.2)))) == true) rfl rfl rfl rfl fun h => v_call (ok_law5_holds (gdT h_y6 h)) (.nil)) ?_
    refine R_q _ rfl (v_and (ov rfl) (fun hp => ow rfl (gT hp))) ?_
    refine R_q _ rfl (v_assign (ov rfl)) ?_
    refine R_nil ?_
    obtain rfl := rt (v := (((!y5) || (((decide (y3.1.Num = y4.1.Num) && (decide (y3.1.Den = y4.1.Den) && true)) && (y3.2.1 == y4.2.1)) && (decide (y3.2.2 = y4.2.2)))) && y6)) h
    refine T_ret (retq ?_ (.one (.tmp rfl (Dat.view (.b rfl)))))
    rfl
end Go.Proofs.Ytecdkapjjhkanaa
