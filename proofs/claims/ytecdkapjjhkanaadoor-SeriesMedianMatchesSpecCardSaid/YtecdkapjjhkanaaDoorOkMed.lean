/- A text of the proof: a verified executor of the program form, or the contracts of the functions that the law reaches. -/
import Derived.Test.YtecdkapjjhkanaaDoorShT
import Derived.Test.YtecdkapjjhkanaaDoorProg
import Derived.Test.YtecdkapjjhkanaaDoorLayD
set_option linter.all false
namespace Go.Proofs.YtecdkapjjhkanaaDoor
open Go Go.Vx
set_option maxRecDepth 10000
set_option maxHeartbeats 1000000
set_option linter.unusedVariables false
theorem tZ_69 : Tryd.prog.cellsOf 69 = 3 := by kernel_rfl
theorem tZ_24 : Tryd.prog.cellsOf 24 = 2 := by kernel_rfl
theorem tA24 : tAgg Tryd.prog 24 2 = true := by kernel_rfl
theorem tZ24 : zeroOf Tryd.prog 24 = some [.int .i64 0, .slice none 0 0] := by kernel_rfl
theorem tF24_0 : tFld Tryd.prog 24 0 0 = true := by kernel_rfl
theorem tS3 : tScal Tryd.prog 3 = true := by kernel_rfl
theorem tF24_1 : tFld Tryd.prog 24 1 1 = true := by kernel_rfl
theorem tS22 : tScal Tryd.prog 22 = true := by kernel_rfl
theorem tL22 : tSl Tryd.prog 22 69 3 24 = true := by kernel_rfl
theorem tA69 : tAgg Tryd.prog 69 3 = true := by kernel_rfl
theorem tZ69 : zeroOf Tryd.prog 69 = some [.int .i64 0, .int .i64 0, .int .i64 0] := by kernel_rfl
theorem tF69_0 : tFld Tryd.prog 69 0 0 = true := by kernel_rfl
theorem tF69_1 : tFld Tryd.prog 69 1 1 = true := by kernel_rfl
theorem tF69_2 : tFld Tryd.prog 69 2 2 = true := by kernel_rfl
theorem tPL24 : structPl Tryd.prog 24 = some [(0, 1), (1, 1)] := by kernel_rfl
theorem tHA24 : hasAll Tryd.prog 24 = true := by kernel_rfl
theorem tIsl22 : (match Tryd.prog.underlying 22 with | some (.slice _) => true | _ => false) = true := by kernel_rfl
theorem tL33 : tSl Tryd.prog 33 3 1 8 = true := by kernel_rfl
theorem tZ_3 : Tryd.prog.cellsOf 3 = 1 := by kernel_rfl
theorem tIsl33 : (match Tryd.prog.underlying 33 with | some (.slice _) => true | _ => false) = true := by kernel_rfl
theorem tPL63 : structPl Tryd.prog 63 = some [(0, 1)] := by kernel_rfl
theorem tHA63 : hasAll Tryd.prog 63 = true := by kernel_rfl
theorem tZ63 : zeroOf Tryd.prog 63 = some [.slice none 0 0] := by kernel_rfl
theorem tA63 : tAgg Tryd.prog 63 1 = true := by kernel_rfl
theorem tZ_5 : Tryd.prog.cellsOf 5 = 1 := by kernel_rfl
theorem tF63_0 : tFld Tryd.prog 63 0 0 = true := by kernel_rfl
theorem tS61 : tScal Tryd.prog 61 = true := by kernel_rfl
theorem tI2 : tInt Tryd.prog 2 .i64 = true := by kernel_rfl
theorem tI101 : tInt Tryd.prog 101 .u64 = true := by kernel_rfl
theorem tL61 : tSl Tryd.prog 61 5 1 1 = true := by kernel_rfl
theorem tI3 : tInt Tryd.prog 3 .i64 = true := by kernel_rfl
theorem tStr9 : tStr Tryd.prog 9 = true := by kernel_rfl
theorem tZ139 : zeroOf Tryd.prog 139 = some [.int .u8 0, .int .u8 0, .int .u8 0, .int .u8 0, .int .u8 0, .int .u8 0, .int .u8 0, .int .u8 0, .int .u8 0, .int .u8 0, .int .u8 0, .int .u8 0, .int .u8 0, .int .u8 0, .int .u8 0, .int .u8 0, .int .u8 0, .int .u8 0, .int .u8 0, .int .u8 0, .int .u8 0, .int .u8 0, .int .u8 0, .int .u8 0] := by kernel_rfl
theorem tZ_139 : Tryd.prog.cellsOf 139 = 24 := by kernel_rfl
theorem tR139 : tArr Tryd.prog 139 24 5 1 = true := by kernel_rfl
theorem tZ_63 : Tryd.prog.cellsOf 63 = 1 := by kernel_rfl
theorem tU85 : tU8 Tryd.prog 5 = true := by kernel_rfl
theorem tPL69 : structPl Tryd.prog 69 = some [(0, 1), (1, 1), (2, 1)] := by kernel_rfl
theorem tHA69 : hasAll Tryd.prog 69 = true := by kernel_rfl
theorem tI119 : tInt Tryd.prog 119 .u64 = true := by kernel_rfl
theorem tFS69 : flatSt Tryd.prog 69 [.i .i64, .i .i64, .i .i64] = true := by kernel_rfl
def gl0 : Gl := ⟨1, [(0, (Go.Lib.pow10Tab.map fun z => Value.int .u64 z).toArray)]⟩
def R69 (x : api_Sample) : List AV := [.int .i64 x.At, .int .i64 x.N, .int .i64 x.Mark]
theorem D69 (x : api_Sample) : (R69 x).length = Tryd.prog.cellsOf 69 ∧ (R69 x).all datB = true := ⟨tZ_69.symm, rfl⟩
def R3 (x : Int) : List AV := [.int .i64 x]
theorem D3 (x : Int) : (R3 x).length = Tryd.prog.cellsOf 3 ∧ (R3 x).all datB = true := ⟨tZ_3.symm, rfl⟩
def R5 (x : Int) : List AV := [.int .u8 x]
theorem D5 (x : Int) : (R5 x).length = Tryd.prog.cellsOf 5 ∧ (R5 x).all datB = true := ⟨tZ_5.symm, rfl⟩
def C5 (x : Int) : AV := .int .u8 x

theorem ok_series_within {n : Int} {low : Int} {high : Int} {r : Bool} (h : series_within n low high = some r) :
    CSpec Tryd.prog gl0 40 [.int .i64 n, .int .i64 low, .int .i64 high] (.bool r) := by
  unfold series_within at h
  replace h := bnd0 h
  refine spec_of (by kernel_rfl) Tryd.func40 rfl rfl ?_
  intro w0 A
  refine T_seq (T_reg ?_)
  refine R_q _ rfl (v_assign (ov rfl)) ?_
  refine R_nil ?_
  refine T_seq (T_reg ?_)
  refine R_q _ rfl (v_move (ov rfl)) ?_
  refine R_q _ rfl (v_move (ov rfl)) ?_
  refine R_q _ rfl (v_geq (ov rfl) (ov rfl)) ?_
  refine R_q _ rfl (v_move (ov rfl)) ?_
  refine R_q _ rfl (.guarded ((decide (low ≤ n)) == true) rfl rfl rfl rfl fun h => v_move (ov rfl)) ?_
  refine R_q _ rfl (.guarded ((decide (low ≤ n)) == true) rfl rfl rfl rfl fun h => v_move (ov rfl)) ?_
  refine R_q _ rfl (.guarded ((decide (low ≤ n)) == true) rfl rfl rfl rfl fun h => v_leq (ow rfl h) (ow rfl h)) ?_
  refine R_q _ rfl (v_and (ov rfl) (fun hp => ow rfl (gT hp))) ?_
  refine R_q _ rfl (v_assign (ov rfl)) ?_
  refine R_nil ?_
  obtain rfl := rt (v := ((decide (low ≤ n)) && (decide (n ≤ high)))) h
  refine T_ret (retq ?_ (.one (.tmp rfl (Dat.view (.b rfl)))))
  rfl

theorem ok_series_check {s : api_Series} {r : Int × Int} (h : series_check s = some r) :
    CSpec Tryd.prog gl0 68 [.agg [.int .i64 s.Den, .sl 69 (List.map R69 s.Samples)]] (.tuple [.int .i64 r.1, .int .i64 r.2]) := by
  unfold series_check at h
  replace h := bnd0 h
  refine spec_of (by kernel_rfl) Tryd.func68 rfl rfl ?_
  intro w0 A
  refine T_seq (T_reg ?_)
  refine R_q _ rfl (v_boxD (cva (ov rfl)) rfl tZ_24 rfl) ?_
  refine R_q _ rfl (v_assign (ov rfl)) ?_
  refine R_q _ rfl (v_assign (ov rfl)) ?_
  refine R_nil ?_
  refine T_seq ?_
  refine T_keep (kc 1 rfl <| kn) rfl ?_
  refine T_seq (T_reg ?_)
  refine R_q _ rfl (v_fieldR (ov rfl) tF24_0) ?_
  refine R_q _ rfl (v_loadS_r (ov rfl) tS3 rfl) ?_
  obtain ⟨y, h_y, h⟩ := bnd h
  refine R_q _ rfl (v_call (ok_series_within h_y) (.cons (ov rfl) (.b rfl) <| .cons (ov rfl) (.b rfl) <| .cons (ov rfl) (.b rfl) <| .nil)) ?_
  refine R_q _ rfl (v_not (ov rfl)) ?_
  refine R_nil ?_
  refine T_keep (kc 1 rfl <| kc 9 rfl <| kn) rfl ?_
  refine T_if h rfl (fun b9 h => ?_) (fun b9 h => ?_)
  · skip
    refine T_keep (kn) rfl ?_
    refine T_seq (T_reg ?_)
    refine R_q _ rfl (v_assign (ov rfl)) ?_
    refine R_q _ rfl (v_assign (ov rfl)) ?_
    refine R_nil ?_
    obtain rfl := rt (v := ((-1), 9)) h
    refine T_ret (retq ?_ (.two (.tmp rfl (Dat.view (.b rfl))) (.tmp rfl (Dat.view (.b rfl)))))
    rfl
  · skip
    refine T_skip ?_
    refine T_seq ?_
    refine T_keep (kc 1 rfl <| kn) rfl ?_
    refine T_seq (T_reg ?_)
    refine R_q _ rfl (v_fieldR (ov rfl) tF24_1) ?_
    refine R_q _ rfl (v_loadS_r (ov rfl) tS22 rfl) ?_
    refine R_q _ rfl (v_len (slv_sl (ov rfl) tZ_69) tL22 (len_map _ _)) ?_
    refine R_q _ rfl (v_gtr (ov rfl) (ov rfl)) ?_
    refine R_nil ?_
    refine T_keep (kc 1 rfl <| kc 13 rfl <| kn) rfl ?_
    refine T_if h rfl (fun b13 h => ?_) (fun b13 h => ?_)
    · skip
      refine T_keep (kn) rfl ?_
      refine T_seq (T_reg ?_)
      refine R_q _ rfl (v_assign (ov rfl)) ?_
      refine R_q _ rfl (v_assign (ov rfl)) ?_
      refine R_nil ?_
      obtain rfl := rt (v := ((-1), 3)) h
      refine T_ret (retq ?_ (.two (.tmp rfl (Dat.view (.b rfl))) (.tmp rfl (Dat.view (.b rfl)))))
      rfl
    · skip
      refine T_skip ?_
      refine T_joinG (fun j => (.inr j)) (t0 ⟨[], []⟩) h (fun h => ?_) (fun j h => ?_)
      · skip
        refine T_keep (kc 1 rfl <| kn) rfl ?_
        refine T_seq (T_reg ?_)
        refine R_q _ rfl (v_fieldR (ov rfl) tF24_1) ?_
        refine R_q _ rfl (v_loadS_r (ov rfl) tS22 rfl) ?_
        refine R_q _ rfl (v_len (slv_sl (ov rfl) tZ_69) tL22 (len_map _ _)) ?_
        refine R_q _ rfl (v_move (ov rfl)) ?_
        refine R_nil ?_
        refine T_block ?_
        obtain ⟨r1, hl1, ho1⟩ := bndL h
        refine T_loopG _ (t1 fun i => ⟨[(1, .rp [.int .i64 s.Den, .sl 69 (List.map R69 s.Samples)] 0), (15, .sl 69 (List.map R69 s.Samples)), (16, .int .i64 (s.Samples.length : Int)), (17, .int .i64 i)], []⟩) _ hl1 (Ent.sel [] (sd 1 rfl rfl <| sd 15 rfl rfl <| sd 16 rfl rfl <| sd 17 rfl rfl <| sn) (.nil) rfl rfl) (fun n1 s1 h => ?_)
        obtain ⟨i, rfl⟩ : ∃ x, x = s1 := ⟨_, rfl⟩
        replace h := t1i h
        refine t1T ?_
        unfold series_check_L1 at h
        refine T_seq (T_reg ?_)
        refine R_q _ rfl (v_lss (ov rfl) (ov rfl)) ?_
        refine R_nil ?_
        refine T_seq ?_
        refine T_if h rfl (fun b18 h => ?_) (fun b18 h => ?_)
        · skip
          refine T_skip ?_
          refine T_seq ?_
          refine T_block ?_
          refine T_keep (kc 1 rfl <| kc 15 rfl <| kc 16 rfl <| kc 17 rfl <| kn) rfl ?_
          refine T_seq (T_reg ?_)
          refine R_q _ rfl (v_move (ov rfl)) ?_
          obtain ⟨x, h_x, h⟩ := bnd h
          refine R_q _ rfl (v_ixSG (ov rfl) (ov rfl) tL22 h_x) ?_
          refine R_q _ rfl (v_loadA_r (ov rfl) tA69 rfl rfl) ?_
          refine R_w _ _ rfl (w_alloc (row := [_, _, _]) 0 rfl tZ69 rfl tZ_69) ?_
          refine R_q _ rfl (v_assign (ov rfl)) ?_
          refine R_w _ _ rfl (w_store (ov rfl) (ov rfl) (cells_agg tA69 rfl) rfl rfl rfl (Nat.le_of_ble_eq_true rfl) (cell1_all rfl) rfl) ?_
          refine R_nil ?_
          refine T_block ?_
          refine T_keep (kc 1 rfl <| kc 4 rfl <| kc 5 rfl <| kc 15 rfl <| kc 16 rfl <| kc 17 rfl <| kn) rfl ?_
          refine T_seq (T_reg ?_)
          refine R_q _ rfl (v_fieldP (ov rfl) rfl rfl tF69_0) ?_
          refine R_q _ rfl (v_loadS (ov rfl) rfl rfl rfl tS3 rfl) ?_
          obtain ⟨y2, h_y2, h⟩ := bnd h
          refine R_q _ rfl (v_call (ok_series_within h_y2) (.cons (ov rfl) (.b rfl) <| .cons (ov rfl) (.b rfl) <| .cons (ov rfl) (.b rfl) <| .nil)) ?_
          refine R_q _ rfl (v_not (ov rfl)) ?_
          refine R_q _ rfl (v_move (ov rfl)) ?_
          refine R_q _ rfl (.guarded ((!y2) == false) rfl rfl rfl rfl fun h => v_fieldP (ov rfl) rfl rfl tF69_1) ?_
          refine R_q _ rfl (.guarded ((!y2) == false) rfl rfl rfl rfl fun h => v_loadS (ow rfl h) rfl rfl rfl tS3 rfl) ?_
          obtain ⟨y3, h_y3, h⟩ := bnd h
          refine R_q _ rfl (.guarded ((!y2) == false) rfl rfl rfl rfl fun h => v_call (ok_series_within (gdT h_y3 h)) (.cons (ow rfl h) (.b rfl) <| .cons (ov rfl) (.b rfl) <| .cons (ov rfl) (.b rfl) <| .nil)) ?_
          refine R_q _ rfl (.guarded ((!y2) == false) rfl rfl rfl rfl fun h => v_not (ow rfl h)) ?_
          refine R_q _ rfl (v_or (ov rfl) (fun hp => ow rfl (gF hp))) ?_
          refine R_q _ rfl (v_move (ov rfl)) ?_
          refine R_q _ rfl (.guarded (((!y2) || (!y3)) == false) rfl rfl rfl rfl fun h => v_fieldP (ov rfl) rfl rfl tF69_2) ?_
          refine R_q _ rfl (.guarded (((!y2) || (!y3)) == false) rfl rfl rfl rfl fun h => v_loadS (ow rfl h) rfl rfl rfl tS3 rfl) ?_
          obtain ⟨y4, h_y4, h⟩ := bnd h
          refine R_q _ rfl (.guarded (((!y2) || (!y3)) == false) rfl rfl rfl rfl fun h => v_call (ok_series_within (gdT h_y4 h)) (.cons (ow rfl h) (.b rfl) <| .cons (ov rfl) (.b rfl) <| .cons (ov rfl) (.b rfl) <| .nil)) ?_
          refine R_q _ rfl (.guarded (((!y2) || (!y3)) == false) rfl rfl rfl rfl fun h => v_not (ow rfl h)) ?_
          refine R_q _ rfl (v_or (ov rfl) (fun hp => ow rfl (gF hp))) ?_
          refine R_q _ rfl (v_assign (ov rfl)) ?_
          refine R_nil ?_
          refine T_keep (kc 1 rfl <| kc 4 rfl <| kc 5 rfl <| kc 15 rfl <| kc 16 rfl <| kc 17 rfl <| kc 22 rfl <| kn) rfl ?_
          refine T_if h rfl (fun b22 h => ?_) (fun b22 h => ?_)
          · skip
            refine T_keep (kc 4 rfl <| kn) rfl ?_
            refine T_seq (T_reg ?_)
            refine R_q _ rfl (v_move (ov rfl)) ?_
            refine R_q _ rfl (v_assign (ov rfl)) ?_
            refine R_q _ rfl (v_assign (ov rfl)) ?_
            refine R_nil ?_
            rw [lx h] at ho1
            replace h := ho1
            obtain rfl := rt (v := (i, 9)) h
            refine T_ret (retq ?_ (.two (.tmp rfl (Dat.view (.b rfl))) (.tmp rfl (Dat.view (.b rfl)))))
            rfl
          · skip
            refine T_keep (kc 1 rfl <| kc 4 rfl <| kc 5 rfl <| kc 15 rfl <| kc 16 rfl <| kc 17 rfl <| kn) rfl ?_
            refine T_seq (T_reg ?_)
            refine R_q _ rfl (v_fieldP (ov rfl) rfl rfl tF69_1) ?_
            refine R_q _ rfl (v_loadS (ov rfl) rfl rfl rfl tS3 rfl) ?_
            refine R_q _ rfl (v_neq (ov rfl) (ov rfl)) ?_
            refine R_q _ rfl (v_move (ov rfl)) ?_
            refine R_q _ rfl (.guarded ((!decide (x.N = 0)) == true) rfl rfl rfl rfl fun h => v_fieldP (ov rfl) rfl rfl tF69_2) ?_
            refine R_q _ rfl (.guarded ((!decide (x.N = 0)) == true) rfl rfl rfl rfl fun h => v_loadS (ow rfl h) rfl rfl rfl tS3 rfl) ?_
            refine R_q _ rfl (.guarded ((!decide (x.N = 0)) == true) rfl rfl rfl rfl fun h => v_leq (ow rfl h) (ov rfl)) ?_
            refine R_q _ rfl (v_and (ov rfl) (fun hp => ow rfl (gT hp))) ?_
            refine R_q _ rfl (v_assign (ov rfl)) ?_
            refine R_nil ?_
            refine T_keep (kc 1 rfl <| kc 4 rfl <| kc 5 rfl <| kc 15 rfl <| kc 16 rfl <| kc 17 rfl <| kc 40 rfl <| kn) rfl ?_
            refine T_if h rfl (fun b40 h => ?_) (fun b40 h => ?_)
            · skip
              refine T_keep (kc 4 rfl <| kn) rfl ?_
              refine T_seq (T_reg ?_)
              refine R_q _ rfl (v_move (ov rfl)) ?_
              refine R_q _ rfl (v_assign (ov rfl)) ?_
              refine R_q _ rfl (v_assign (ov rfl)) ?_
              refine R_nil ?_
              rw [lx h] at ho1
              replace h := ho1
              obtain rfl := rt (v := (i, 2)) h
              refine T_ret (retq ?_ (.two (.tmp rfl (Dat.view (.b rfl))) (.tmp rfl (Dat.view (.b rfl)))))
              rfl
            · skip
              refine T_keep (kc 1 rfl <| kc 4 rfl <| kc 5 rfl <| kc 15 rfl <| kc 16 rfl <| kc 17 rfl <| kn) rfl ?_
              refine T_seq (T_draw (cw := md0) (by kernel_rfl) ?_)
              refine D_free 0 _ rfl (by kernel_rfl) rfl rfl (fun hp' => v_move (ov rfl)) ?_
              refine D_free 1 _ rfl (by kernel_rfl) rfl rfl (fun hp' => v_gtr (ov rfl) (ov rfl)) ?_
              refine D_free 2 _ rfl (by kernel_rfl) rfl rfl (fun hp' => v_move (ov rfl)) ?_
              refine D_read 3 _ rfl (by kernel_rfl) rfl rfl rfl ExtW.refl (fun hp' hx => .guarded ((decide (0 < i)) == true) rfl rfl rfl rfl fun h => v_fieldP (ov rfl) (hx.get rfl rfl) rfl tF69_0) ?_
              refine D_read 4 _ rfl (by kernel_rfl) rfl rfl rfl ExtW.refl (fun hp' hx => .guarded ((decide (0 < i)) == true) rfl rfl rfl rfl fun h => v_loadS (ow rfl h) (hx.get rfl rfl) rfl rfl tS3 rfl) ?_
              refine D_read 5 _ rfl (by kernel_rfl) rfl rfl rfl ExtW.refl (fun hp' hx => .guarded ((decide (0 < i)) == true) rfl rfl rfl rfl fun h => v_fieldR (ov rfl) tF24_1) ?_
              refine D_read 6 _ rfl (by kernel_rfl) rfl rfl rfl ExtW.refl (fun hp' hx => .guarded ((decide (0 < i)) == true) rfl rfl rfl rfl fun h => v_loadS_r (ow rfl h) tS22 rfl) ?_
              refine D_free 7 _ rfl (by kernel_rfl) rfl rfl (fun hp' => .guarded ((decide (0 < i)) == true) rfl rfl rfl rfl fun h => v_move (ov rfl)) ?_
              refine D_free 8 _ rfl (by kernel_rfl) rfl rfl (fun hp' => .guarded ((decide (0 < i)) == true) rfl rfl rfl rfl fun h => v_sub (ow rfl h) (ov rfl) rfl) ?_
              obtain ⟨x2, h_x2, h⟩ := bnd h
              refine D_read 9 _ rfl (by kernel_rfl) rfl rfl rfl ExtW.refl (fun hp' hx => .guarded ((decide (0 < i)) == true) rfl rfl rfl rfl fun h => v_ixSG (ow rfl h) (ow rfl h) tL22 (gdT h_x2 h)) ?_
              refine D_read 10 _ rfl (by kernel_rfl) rfl rfl rfl ExtW.refl (fun hp' hx => .guarded ((decide (0 < i)) == true) rfl rfl rfl rfl fun h => v_fieldR (ow rfl h) tF69_0) ?_
              refine D_read 11 _ rfl (by kernel_rfl) rfl rfl rfl ExtW.refl (fun hp' hx => .guarded ((decide (0 < i)) == true) rfl rfl rfl rfl fun h => v_loadS_r (ow rfl h) tS3 rfl) ?_
              refine D_free 12 _ rfl (by kernel_rfl) rfl rfl (fun hp' => .guarded ((decide (0 < i)) == true) rfl rfl rfl rfl fun h => v_leq (ow rfl h) (ow rfl h)) ?_
              refine D_free 13 _ rfl (by kernel_rfl) rfl rfl (fun hp' => v_and (ov rfl) (fun hp => ow rfl (gT hp))) ?_
              refine D_free 14 _ rfl (by kernel_rfl) rfl rfl (fun hp' => v_assign (ov rfl)) ?_
              refine D_done (by kernel_rfl) ?_
              refine T_keep (kc 1 rfl <| kc 4 rfl <| kc 15 rfl <| kc 16 rfl <| kc 17 rfl <| kc 50 rfl <| kn) rfl ?_
              refine T_if h rfl (fun b50 h => ?_) (fun b50 h => ?_)
              · skip
                refine T_keep (kc 4 rfl <| kn) rfl ?_
                refine T_seq (T_reg ?_)
                refine R_q _ rfl (v_move (ov rfl)) ?_
                refine R_q _ rfl (v_assign (ov rfl)) ?_
                refine R_q _ rfl (v_assign (ov rfl)) ?_
                refine R_nil ?_
                rw [lx h] at ho1
                replace h := ho1
                obtain rfl := rt (v := (i, 10)) h
                refine T_ret (retq ?_ (.two (.tmp rfl (Dat.view (.b rfl))) (.tmp rfl (Dat.view (.b rfl)))))
                rfl
              · skip
                refine T_skip ?_
                refine T_keep (kc 1 rfl <| kc 15 rfl <| kc 16 rfl <| kc 17 rfl <| kn) rfl ?_
                refine T_reg ?_
                refine R_q _ rfl (v_add (ov rfl) (ov rfl) rfl) ?_
                refine R_q _ rfl (v_move (ov rfl)) ?_
                refine R_nil ?_
                exact ⟨(i64 (i + 1)), h, Ent.sel [] (sd 1 rfl rfl <| sd 15 rfl rfl <| sd 16 rfl rfl <| sd 17 rfl rfl <| sn) (.nil) rfl rfl⟩
        · skip
          refine T_exit ?_
          rw [lx h] at ho1
          replace h := ho1
          exact ⟨(), h, Ent.sel [] (sn) (.nil) rfl rfl⟩
      · skip
        replace h := elr h
        cases j
        replace h := t0i h
        refine t0T ?_
        refine T_seq (T_reg ?_)
        refine R_q _ rfl (v_assign (ov rfl)) ?_
        refine R_q _ rfl (v_assign (ov rfl)) ?_
        refine R_nil ?_
        obtain rfl := rt (v := ((-1), 0)) h
        refine T_ret (retq ?_ (.two (.tmp rfl (Dat.view (.b rfl))) (.tmp rfl (Dat.view (.b rfl)))))
        rfl

theorem ok_series_Check {s : api_Series} {r : Int} (h : series_Check s = some r) :
    CSpec Tryd.prog gl0 32 [.agg [.int .i64 s.Den, .sl 69 (List.map R69 s.Samples)]] (.int .i64 r) := by
  unfold series_Check at h
  replace h := bnd0 h
  refine spec_of (by kernel_rfl) Tryd.func32 rfl rfl ?_
  intro w0 A
  refine T_seq (T_reg ?_)
  refine R_q _ rfl (v_boxD (cva (ov rfl)) rfl tZ_24 rfl) ?_
  refine R_q _ rfl (v_assign (ov rfl)) ?_
  refine R_nil ?_
  refine T_keep (kc 1 rfl <| kn) rfl ?_
  refine T_seq (T_reg ?_)
  refine R_q _ rfl (v_loadA_r (ov rfl) tA24 rfl rfl) ?_
  obtain ⟨y, h_y, h⟩ := bnd h
  refine R_q _ rfl (v_call (ok_series_check h_y) (.cons (ov rfl) (.aggB rfl) <| .nil)) ?_
  refine R_q _ rfl (v_move (ov rfl)) ?_
  refine R_q _ rfl (v_extract (ov rfl) rfl) ?_
  refine R_q _ rfl (v_extract (ov rfl) rfl) ?_
  refine R_q _ rfl (v_assign (ov rfl)) ?_
  refine R_q _ rfl (v_assign (ov rfl)) ?_
  refine R_nil ?_
  refine T_keep (kc 4 rfl <| kn) rfl ?_
  refine T_seq (T_reg ?_)
  refine R_q _ rfl (v_move (ov rfl)) ?_
  refine R_q _ rfl (v_assign (ov rfl)) ?_
  refine R_nil ?_
  obtain rfl := rt (v := y.2) h
  refine T_ret (retq ?_ (.one (.tmp rfl (Dat.view (.b rfl)))))
  rfl

theorem ok_clone69_o {xs r : List api_Sample} (h : clone xs = some r) :
    GSpec Tryd.prog gl0 53 [.sl 69 (List.map R69 xs)] [] (.own 0 r.length) [some ⟨69, List.map R69 r⟩] := by
  have h2 : app [] xs = some r := h
  refine gspec_of (by kernel_rfl) Tryd.func53 rfl rfl ?_
  intro w0 A W φ0
  refine T_seq (T_reg ?_)
  refine R_q _ rfl (v_assign (ov rfl)) ?_
  refine R_nil ?_
  refine T_seq (T_seq (T_reg ?_))
  refine R_q _ rfl (v_move (ov rfl)) ?_
  refine R_eqnil (ov rfl) tIsl22 rfl (fun b hb => ?_)
  refine R_nil ?_
  refine T_cond rfl (fun hb2 => ?_) (fun hb2 => ?_)
  · skip
    obtain rfl : xs = [] := by simpa using hb hb2
    obtain rfl : r = [] := by simpa [app] using h2.symm
    refine T_seq (T_reg ?_)
    refine R_q _ rfl (v_assign (ov rfl)) ?_
    refine R_nil ?_
    refine T_ret ?_
    exact retg [none] rfl (.cons (.tmp rfl) .nil) (.row 69 .nil) rfl rfl (.row rfl)
  · skip
    refine T_skip ?_
    refine T_seq (T_reg ?_)
    refine R_w _ _ rfl (w_litG (r := 0) (xs := []) (f := R69) rfl tL22 .nil rfl rfl rfl) ?_
    refine R_q _ rfl (v_move (ov rfl)) ?_
    refine R_w _ _ rfl (w_appendZ (ov rfl) (slv_sl (ov rfl) tZ_69) tL22 rfl rfl (fun _ => cell1_all rfl) rfl h2) ?_
    refine R_q _ rfl (v_assign (ov rfl)) ?_
    refine R_nil ?_
    refine T_ret ?_
    exact retg [some 0] rfl (.cons (.tmp rfl) .nil) (.cons rfl (roM D69) .nil) rfl rfl (.own _ rfl)

theorem ok_series_solid {x : api_Sample} {r : Bool} (h : series_solid x = some r) :
    CSpec Tryd.prog gl0 54 [.agg [.int .i64 x.At, .int .i64 x.N, .int .i64 x.Mark]] (.bool r) := by
  unfold series_solid at h
  replace h := bnd0 h
  refine spec_of (by kernel_rfl) Tryd.func54 rfl rfl ?_
  intro w0 A
  refine T_seq (T_reg ?_)
  refine R_q _ rfl (v_boxD (cva (ov rfl)) rfl tZ_69 rfl) ?_
  refine R_q _ rfl (v_assign (ov rfl)) ?_
  refine R_nil ?_
  refine T_keep (kc 1 rfl <| kc 2 rfl <| kn) rfl ?_
  refine T_seq (T_reg ?_)
  refine R_q _ rfl (v_fieldR (ov rfl) tF69_2) ?_
  refine R_q _ rfl (v_loadS_r (ov rfl) tS3 rfl) ?_
  refine R_q _ rfl (v_geq (ov rfl) (ov rfl)) ?_
  refine R_q _ rfl (v_assign (ov rfl)) ?_
  refine R_nil ?_
  obtain rfl := rt (v := (decide (3 ≤ x.Mark))) h
  refine T_ret (retq ?_ (.one (.tmp rfl (Dat.view (.b rfl)))))
  rfl

theorem ok_series_solids {s : api_Series} {r : (List Int)} (h : series_solids s = some r) :
    CSpec Tryd.prog gl0 48 [.agg [.int .i64 s.Den, .sl 69 (List.map R69 s.Samples)]] (.sl 3 (List.map R3 r)) := by
  unfold series_solids at h
  replace h := bnd0 h
  refine spec_of (by kernel_rfl) Tryd.func48 rfl rfl ?_
  intro w0 A
  refine T_seq (T_reg ?_)
  refine R_q _ rfl (v_boxD (cva (ov rfl)) rfl tZ_24 rfl) ?_
  refine R_q _ rfl (v_assign (ov rfl)) ?_
  refine R_nil ?_
  refine T_keep (kc 1 rfl <| kn) rfl ?_
  refine T_seq (T_reg ?_)
  refine R_q _ rfl (v_assign (ov rfl)) ?_
  refine R_nil ?_
  refine T_joinG id (t1 fun out => ⟨[(3, .own 0 out.length)], [some ⟨3, List.map R3 out⟩]⟩) h (fun h => ?_) (fun j h => ?_)
  · skip
    refine T_seq (T_reg ?_)
    refine R_q _ rfl (v_fieldR (ov rfl) tF24_1) ?_
    refine R_q _ rfl (v_loadS_r (ov rfl) tS22 rfl) ?_
    refine R_q _ rfl (v_len (slv_sl (ov rfl) tZ_69) tL22 (len_map _ _)) ?_
    refine R_q _ rfl (v_move (ov rfl)) ?_
    refine R_nil ?_
    refine T_block ?_
    obtain ⟨r1, hl1, ho1⟩ := bndL h
    refine T_loopG _ (t2 fun out2 i => ⟨[(3, .own 0 out2.length), (7, .sl 69 (List.map R69 s.Samples)), (8, .int .i64 (s.Samples.length : Int)), (9, .int .i64 i)], [some ⟨3, List.map R3 out2⟩]⟩) _ hl1 (Ent.sel [none] (sr 3 rfl (.row rfl) <| sd 7 rfl rfl <| sd 8 rfl rfl <| sd 9 rfl rfl <| sn) (.row 3 <| .nil) rfl rfl) (fun n1 s1 h => ?_)
    obtain ⟨out2, i⟩ := s1
    replace h := t2i h
    refine t2T ?_
    unfold series_solids_L1 at h
    refine T_seq (T_reg ?_)
    refine R_q _ rfl (v_lss (ov rfl) (ov rfl)) ?_
    refine R_nil ?_
    refine T_seq ?_
    refine T_if h rfl (fun b10 h => ?_) (fun b10 h => ?_)
    · skip
      refine T_skip ?_
      refine T_seq ?_
      refine T_block ?_
      refine T_keep (kc 3 rfl <| kc 7 rfl <| kc 8 rfl <| kc 9 rfl <| kn) rfl ?_
      refine T_seq (T_reg ?_)
      refine R_q _ rfl (v_move (ov rfl)) ?_
      obtain ⟨x, h_x, h⟩ := bnd h
      refine R_q _ rfl (v_ixSG (ov rfl) (ov rfl) tL22 h_x) ?_
      refine R_q _ rfl (v_loadA_r (ov rfl) tA69 rfl rfl) ?_
      refine R_w _ _ rfl (w_alloc (row := [_, _, _]) 1 rfl tZ69 rfl tZ_69) ?_
      refine R_q _ rfl (v_assign (ov rfl)) ?_
      refine R_w _ _ rfl (w_store (ov rfl) (ov rfl) (cells_agg tA69 rfl) rfl rfl rfl (Nat.le_of_ble_eq_true rfl) (cell1_all rfl) rfl) ?_
      refine R_nil ?_
      refine T_keep (kc 3 rfl <| kc 4 rfl <| kc 5 rfl <| kc 7 rfl <| kc 8 rfl <| kc 9 rfl <| kn) rfl ?_
      refine T_seq (T_reg ?_)
      refine R_q _ rfl (v_loadA (ov rfl) rfl rfl rfl tA69 rfl rfl) ?_
      obtain ⟨y, h_y, h⟩ := bnd h
      refine R_q _ rfl (v_call (ok_series_solid h_y) (.cons (ov rfl) (.aggB rfl) <| .nil)) ?_
      refine R_nil ?_
      refine T_keep (kc 3 rfl <| kc 4 rfl <| kc 7 rfl <| kc 8 rfl <| kc 9 rfl <| kc 15 rfl <| kn) rfl ?_
      refine T_if h rfl (fun b15 h => ?_) (fun b15 h => ?_)
      · skip
        refine T_keep (kc 3 rfl <| kc 4 rfl <| kc 7 rfl <| kc 8 rfl <| kc 9 rfl <| kn) rfl ?_
        refine T_reg ?_
        refine R_q _ rfl (v_move (ov rfl)) ?_
        refine R_q _ rfl (v_move (ov rfl)) ?_
        refine R_q (.sl 3 (List.map R3 ([i] : List Int))) rfl (v_lit tL33 (.cons (cvs (ov rfl) (cell1_b rfl)) rfl (.cons (.b rfl) .nil) <| .nil) rfl rfl) ?_
        obtain ⟨l, h_l, h⟩ := bnd h
        refine R_w _ _ rfl (w_appendG (ov rfl) (slv_sl (ov rfl) tZ_3) tL33 rfl rfl rfl (fun _ => cell1_all rfl) rfl h_l) ?_
        refine R_q _ rfl (v_assign (ov rfl)) ?_
        refine R_nil ?_
        refine T_keep (kc 3 rfl <| kc 7 rfl <| kc 8 rfl <| kc 9 rfl <| kn) rfl ?_
        refine T_reg ?_
        refine R_q _ rfl (v_add (ov rfl) (ov rfl) rfl) ?_
        refine R_q _ rfl (v_move (ov rfl)) ?_
        refine R_nil ?_
        exact ⟨(l, (i64 (i + 1))), h, Ent.sel [some 0] (sr 3 rfl (.own _ rfl) <| sd 7 rfl rfl <| sd 8 rfl rfl <| sd 9 rfl rfl <| sn) (.cons rfl (roM D3) <| .nil) rfl rfl⟩
      · skip
        refine T_skip ?_
        refine T_keep (kc 3 rfl <| kc 7 rfl <| kc 8 rfl <| kc 9 rfl <| kn) rfl ?_
        refine T_reg ?_
        refine R_q _ rfl (v_add (ov rfl) (ov rfl) rfl) ?_
        refine R_q _ rfl (v_move (ov rfl)) ?_
        refine R_nil ?_
        exact ⟨(out2, (i64 (i + 1))), h, Ent.sel [some 0] (sr 3 rfl (.own _ rfl) <| sd 7 rfl rfl <| sd 8 rfl rfl <| sd 9 rfl rfl <| sn) (.cons rfl (roM D3) <| .nil) rfl rfl⟩
    · skip
      refine T_exit ?_
      rw [lx h] at ho1
      replace h := ho1
      exact ⟨out2, h, Ent.sel [some 0] (sr 3 rfl (.own _ rfl) <| sn) (.cons rfl (roM D3) <| .nil) rfl rfl⟩
  · skip
    obtain ⟨out, rfl⟩ : ∃ x, x = j := ⟨_, rfl⟩
    replace h := t1i h
    refine t1T ?_
    refine T_seq (T_reg ?_)
    refine R_q _ rfl (v_move (ov rfl)) ?_
    refine R_q _ rfl (v_assign (ov rfl)) ?_
    refine R_nil ?_
    obtain rfl := rt (v := out) h
    refine T_ret (retq ?_ (.one (.tmp rfl (View.ownM rfl rfl D3))))
    rfl

theorem ok_clone3_o {xs r : List Int} (h : clone xs = some r) :
    GSpec Tryd.prog gl0 80 [.sl 3 (List.map R3 xs)] [] (.own 0 r.length) [some ⟨3, List.map R3 r⟩] := by
  have h2 : app [] xs = some r := h
  refine gspec_of (by kernel_rfl) Tryd.func80 rfl rfl ?_
  intro w0 A W φ0
  refine T_seq (T_reg ?_)
  refine R_q _ rfl (v_assign (ov rfl)) ?_
  refine R_nil ?_
  refine T_seq (T_seq (T_reg ?_))
  refine R_q _ rfl (v_move (ov rfl)) ?_
  refine R_eqnil (ov rfl) tIsl33 rfl (fun b hb => ?_)
  refine R_nil ?_
  refine T_cond rfl (fun hb2 => ?_) (fun hb2 => ?_)
  · skip
    obtain rfl : xs = [] := by simpa using hb hb2
    obtain rfl : r = [] := by simpa [app] using h2.symm
    refine T_seq (T_reg ?_)
    refine R_q _ rfl (v_assign (ov rfl)) ?_
    refine R_nil ?_
    refine T_ret ?_
    exact retg [none] rfl (.cons (.tmp rfl) .nil) (.row 3 .nil) rfl rfl (.row rfl)
  · skip
    refine T_skip ?_
    refine T_seq (T_reg ?_)
    refine R_w _ _ rfl (w_litG (r := 0) (xs := []) (f := R3) rfl tL33 .nil rfl rfl rfl) ?_
    refine R_q _ rfl (v_move (ov rfl)) ?_
    refine R_w _ _ rfl (w_appendZ (ov rfl) (slv_sl (ov rfl) tZ_3) tL33 rfl rfl (fun _ => cell1_all rfl) rfl h2) ?_
    refine R_q _ rfl (v_assign (ov rfl)) ?_
    refine R_nil ?_
    refine T_ret ?_
    exact retg [some 0] rfl (.cons (.tmp rfl) .nil) (.cons rfl (roM D3) .nil) rfl rfl (.own _ rfl)

theorem ok_sortIL {xs r : List Int} (h : sortI xs = some r) :
    GSpec Tryd.prog gl0 81 [.own 0 xs.length] [some ⟨3, List.map R3 xs⟩] (.tuple []) [some ⟨3, List.map R3 r⟩] :=
  ok_sortI (g := R3) (fun _ => rfl) (by kernel_rfl) tZ_3 (fun _ _ _ _ _ h1 h2 h3 => Any.slices_Sort_int Tryd.lays189 _ _ _ _ _ h1 h2 h3) h

theorem ok_series_sorted_int {l : List Int} {r : (List Int)} (h : series_sorted_int l = some r) :
    CSpec Tryd.prog gl0 66 [.sl 3 (List.map R3 l)] (.sl 3 (List.map R3 r)) := by
  unfold series_sorted_int at h
  replace h := bnd0 h
  refine spec_of (by kernel_rfl) Tryd.func66 rfl rfl ?_
  intro w0 A
  refine T_seq (T_reg ?_)
  refine R_q _ rfl (v_assign (ov rfl)) ?_
  refine R_nil ?_
  refine T_keep (kc 0 rfl <| kn) rfl ?_
  refine T_seq (T_reg ?_)
  refine R_q _ rfl (v_move (ov rfl)) ?_
  obtain ⟨y, h_y, h⟩ := bnd h
  refine R_w _ _ rfl (w_callG [] (ok_clone3_o h_y) (.cons (ov rfl) (.dat rfl) <| .nil) (.nil) rfl (.lent 0 (.inr ⟨Nat.le_of_ble_eq_true rfl, rfl⟩) rfl (roM D3) <| .nil) rfl rfl (.own _ (.inr ⟨Nat.le_of_ble_eq_true rfl, rfl⟩))) ?_
  refine R_q _ rfl (v_assign (ov rfl)) ?_
  refine R_nil ?_
  refine T_keep (kc 0 rfl <| kn) rfl ?_
  refine T_seq (T_reg ?_)
  refine R_q _ rfl (v_move (ov rfl)) ?_
  obtain ⟨y2, h_y2, h⟩ := bnd h
  refine R_w _ _ rfl (w_callG [0] (ok_sortIL h_y2) (.cons (ov rfl) (.own _ rfl) <| .nil) (.cons rfl (roM D3) <| .nil) rfl (.lent 0 (.inl rfl) rfl (roM D3) <| .nil) rfl rfl (rTup (rld rfl))) ?_
  refine R_nil ?_
  refine T_keep (kc 0 rfl <| kn) rfl ?_
  refine T_seq (T_reg ?_)
  refine R_q _ rfl (v_move (ov rfl)) ?_
  refine R_q _ rfl (v_assign (ov rfl)) ?_
  refine R_nil ?_
  obtain rfl := rt (v := y2) h
  refine T_ret (retq ?_ (.one (.tmp rfl (View.ownM rfl (ln_sortI h_y2) D3))))
  rfl

theorem ok_series_Median {s : api_Series} {width : Int} {r : api_Series × Int} (h : series_Median s width = some r) :
    CSpec Tryd.prog gl0 27 [.agg [.int .i64 s.Den, .sl 69 (List.map R69 s.Samples)], .int .i64 width] (.tuple [.agg [.int .i64 r.1.Den, .sl 69 (List.map R69 r.1.Samples)], .int .i64 r.2]) := by
  unfold series_Median at h
  replace h := bnd0 h
  refine spec_of (by kernel_rfl) Tryd.func27 rfl rfl ?_
  intro w0 A
  refine T_seq (T_reg ?_)
  refine R_q _ rfl (v_boxD (cva (ov rfl)) rfl tZ_24 rfl) ?_
  refine R_w _ _ rfl (w_alloc (row := [_, _]) 0 rfl tZ24 rfl tZ_24) ?_
  refine R_q _ rfl (v_assign (ov rfl)) ?_
  refine R_nil ?_
  refine T_seq ?_
  refine T_keep (kc 1 rfl <| kc 2 rfl <| kc 4 rfl <| kn) rfl ?_
  refine T_seq (T_reg ?_)
  refine R_q _ rfl (v_loadA_r (ov rfl) tA24 rfl rfl) ?_
  obtain ⟨y, h_y, h⟩ := bnd h
  refine R_q _ rfl (v_call (ok_series_Check h_y) (.cons (ov rfl) (.aggB rfl) <| .nil)) ?_
  refine R_q _ rfl (v_assign (ov rfl)) ?_
  refine R_nil ?_
  refine T_keep (kc 1 rfl <| kc 2 rfl <| kc 4 rfl <| kc 6 rfl <| kn) rfl ?_
  refine T_seq (T_reg ?_)
  refine R_q _ rfl (v_move (ov rfl)) ?_
  refine R_q _ rfl (v_neq (ov rfl) (ov rfl)) ?_
  refine R_nil ?_
  refine T_keep (kc 1 rfl <| kc 2 rfl <| kc 4 rfl <| kc 6 rfl <| kc 17 rfl <| kn) rfl ?_
  refine T_if h rfl (fun b17 h => ?_) (fun b17 h => ?_)
  · skip
    refine T_keep (kc 4 rfl <| kc 6 rfl <| kn) rfl ?_
    refine T_seq (T_reg ?_)
    refine R_q _ rfl (v_build (ys := [_, _]) tPL24 tHA24 tZ24 (.nil) rfl) ?_
    refine R_q _ rfl (v_move (ov rfl)) ?_
    refine R_w _ _ rfl (w_store (ov rfl) (ov rfl) (cells_agg tA24 rfl) rfl rfl rfl (Nat.le_of_ble_eq_true rfl) (cell1_all rfl) rfl) ?_
    refine R_q _ rfl (v_assign (ov rfl)) ?_
    refine R_nil ?_
    obtain rfl := rt (v := ((api_Series.mk 0 []), y)) h
    refine T_ret (retq ?_ (.two (.agg rfl rfl rfl rfl tA24 rfl rfl (.cons (Dat.view (.b rfl)) <| .cons (View.nils 69) <| .nil)) (.tmp rfl (Dat.view (.b rfl)))))
    rfl
  · skip
    refine T_skip ?_
    refine T_seq ?_
    refine T_keep (kc 1 rfl <| kc 2 rfl <| kc 4 rfl <| kn) rfl ?_
    refine T_seq (T_reg ?_)
    refine R_q _ rfl (v_move (ov rfl)) ?_
    obtain ⟨y2, h_y2, h⟩ := bnd h
    refine R_q _ rfl (v_call (ok_series_within h_y2) (.cons (ov rfl) (.b rfl) <| .cons (ov rfl) (.b rfl) <| .cons (ov rfl) (.b rfl) <| .nil)) ?_
    refine R_q _ rfl (v_not (ov rfl)) ?_
    refine R_q _ rfl (v_move (ov rfl)) ?_
    refine R_q _ rfl (.guarded ((!y2) == false) rfl rfl rfl rfl fun h => v_move (ov rfl)) ?_
    obtain ⟨q, h_q, h⟩ := bnd h
    refine R_q _ rfl (.guarded ((!y2) == false) rfl rfl rfl rfl fun h => v_remG (ow rfl h) (ov rfl) (gdT h_q h)) ?_
    refine R_q _ rfl (.guarded ((!y2) == false) rfl rfl rfl rfl fun h => v_eql (ow rfl h) (ov rfl)) ?_
    refine R_q _ rfl (v_or (ov rfl) (fun hp => ow rfl (gF hp))) ?_
    refine R_nil ?_
    refine T_keep (kc 1 rfl <| kc 2 rfl <| kc 4 rfl <| kc 27 rfl <| kn) rfl ?_
    refine T_if h rfl (fun b27 h => ?_) (fun b27 h => ?_)
    · skip
      refine T_keep (kc 4 rfl <| kn) rfl ?_
      refine T_seq (T_reg ?_)
      refine R_q _ rfl (v_build (ys := [_, _]) tPL24 tHA24 tZ24 (.nil) rfl) ?_
      refine R_w _ _ rfl (w_store (ov rfl) (ov rfl) (cells_agg tA24 rfl) rfl rfl rfl (Nat.le_of_ble_eq_true rfl) (cell1_all rfl) rfl) ?_
      refine R_q _ rfl (v_assign (ov rfl)) ?_
      refine R_nil ?_
      obtain rfl := rt (v := ((api_Series.mk 0 []), 1)) h
      refine T_ret (retq ?_ (.two (.agg rfl rfl rfl rfl tA24 rfl rfl (.cons (Dat.view (.b rfl)) <| .cons (View.nils 69) <| .nil)) (.tmp rfl (Dat.view (.b rfl)))))
      rfl
    · skip
      refine T_skip ?_
      refine T_keep (kc 1 rfl <| kc 2 rfl <| kc 4 rfl <| kn) rfl ?_
      refine T_seq (T_draw (cw := ⟨true, false, [], [29, 30, 31, 32], []⟩) (by kernel_rfl) ?_)
      refine D_free 0 _ rfl (by kernel_rfl) rfl rfl (fun hp' => v_fieldR (ov rfl) tF24_0) ?_
      refine D_free 1 _ rfl (by kernel_rfl) rfl rfl (fun hp' => v_loadS_r (ov rfl) tS3 rfl) ?_
      refine D_free 2 _ rfl (by kernel_rfl) rfl rfl (fun hp' => v_fieldR (ov rfl) tF24_1) ?_
      refine D_free 3 _ rfl (by kernel_rfl) rfl rfl (fun hp' => v_loadS_r (ov rfl) tS22 rfl) ?_
      obtain ⟨y3, h_y3, h⟩ := bnd h
      refine D_two 4 6 rfl rfl (by kernel_rfl) rfl rfl rfl rfl (fun h => by cases h) (fun _ => Ext.app) (fun h => by cases h) (fun h => by cases h) (w_callG [] (ok_clone69_o h_y3) (.cons (ov rfl) (.dat rfl) <| .nil) (.nil) rfl (.keep rfl rfl <| .lent 0 (.inr ⟨Nat.le_of_ble_eq_true rfl, rfl⟩) rfl (roM D69) <| .nil) rfl rfl (.own _ (.inr ⟨Nat.le_of_ble_eq_true rfl, rfl⟩))) (w_alloc (row := [_, _]) 1 rfl tZ24 rfl tZ_24) ?_ ?_
      · skip
        refine D_free 5 _ rfl (by kernel_rfl) rfl rfl (fun hp' => v_build (ys := [_, _]) tPL24 tHA24 tZ24 (.cons (cvs (ov rfl) (cell1_b rfl)) <| .cons (cvs (ov rfl) (cell1_b rfl)) <| .nil) rfl) ?_
        refine D_one 6 _ _ rfl (by kernel_rfl) rfl rfl (fun _ => Ext.app) (fun h => by cases h) (w_alloc (row := [_, _]) 2 rfl tZ24 rfl tZ_24) ?_
        refine D_one 7 _ _ rfl (by kernel_rfl) rfl rfl (fun h => by cases h) (fun h => by cases h) (w_store (ov rfl) (ov rfl) (cells_agg tA24 rfl) rfl rfl rfl (Nat.le_of_ble_eq_true rfl) (cell1_all rfl) rfl) ?_
        refine D_done (by kernel_rfl) ?_
        refine T_keep (kc 1 rfl <| kc 2 rfl <| kc 4 rfl <| kc 7 rfl <| kn) rfl ?_
        refine T_seq (T_reg ?_)
        refine R_q _ rfl (v_loadA_r (ov rfl) tA24 rfl rfl) ?_
        obtain ⟨y4, h_y4, h⟩ := bnd h
        refine R_q _ rfl (v_call (ok_series_solids h_y4) (.cons (ov rfl) (.aggB rfl) <| .nil)) ?_
        refine R_q _ rfl (v_assign (ov rfl)) ?_
        refine R_nil ?_
        refine T_joinG id (t1 fun Samples => ⟨[(4, .ptr 0 1 0 0), (7, .ptr 1 1 0 0)], [some ⟨24, [[.int .i64 0, .nils]]⟩, some ⟨24, [[.int .i64 s.Den, .own 2 Samples.length]]⟩, some ⟨69, List.map R69 Samples⟩]⟩) h (fun h => ?_) (fun j h => ?_)
        · skip
          refine T_keep (kc 1 rfl <| kc 2 rfl <| kc 4 rfl <| kc 7 rfl <| kc 8 rfl <| kn) rfl ?_
          refine T_seq (T_reg ?_)
          refine R_q _ rfl (v_move (ov rfl)) ?_
          refine R_q _ rfl (v_len (slv_sl (ov rfl) tZ_3) tL33 (len_map _ _)) ?_
          refine R_q _ rfl (v_move (ov rfl)) ?_
          refine R_nil ?_
          refine T_block ?_
          obtain ⟨r1, hl1, ho1⟩ := bndL h
          refine T_loopG _ (t2 fun Samples2 i => ⟨[(1, .int .i64 width), (2, .rp [.int .i64 s.Den, .sl 69 (List.map R69 s.Samples)] 0), (4, .ptr 0 1 0 0), (7, .ptr 1 1 0 0), (8, .sl 3 (List.map R3 y4)), (37, .sl 3 (List.map R3 y4)), (38, .int .i64 (y4.length : Int)), (39, .int .i64 i)], [some ⟨24, [[.int .i64 0, .nils]]⟩, some ⟨24, [[.int .i64 s.Den, .own 2 Samples2.length]]⟩, some ⟨69, List.map R69 Samples2⟩]⟩) _ hl1 (Ent.sel [some 0, some 2, some 1] (sd 1 rfl rfl <| sd 2 rfl rfl <| sr 4 rfl (.ptr _ _ _ rfl) <| sr 7 rfl (.ptr _ _ _ rfl) <| sd 8 rfl rfl <| sd 37 rfl rfl <| sd 38 rfl rfl <| sd 39 rfl rfl <| sn) (.cons rfl (ro1 (by exact tZ_24.symm) (rld rfl)) <| .cons rfl (ro1 (by exact tZ_24.symm) (rlc (.dat rfl) <| rlc (.own _ rfl) <| rln)) <| .cons rfl (roM D69) <| .nil) rfl rfl) (fun n1 s1 h => ?_)
          obtain ⟨Samples2, i⟩ := s1
          replace h := t2i h
          refine t2T ?_
          unfold series_Median_L1 at h
          refine T_seq (T_reg ?_)
          refine R_q _ rfl (v_lss (ov rfl) (ov rfl)) ?_
          refine R_nil ?_
          refine T_seq ?_
          refine T_if h rfl (fun b40 h => ?_) (fun b40 h => ?_)
          · skip
            refine T_skip ?_
            refine T_seq ?_
            refine T_block ?_
            refine T_keep (kc 1 rfl <| kc 2 rfl <| kc 4 rfl <| kc 7 rfl <| kc 8 rfl <| kc 37 rfl <| kc 38 rfl <| kc 39 rfl <| kn) rfl ?_
            refine T_seq (T_reg ?_)
            refine R_q _ rfl (v_move (ov rfl)) ?_
            obtain ⟨x, h_x, h⟩ := bnd h
            refine R_q _ rfl (v_ixSG (ov rfl) (ov rfl) tL33 h_x) ?_
            refine R_q _ rfl (v_loadS_r (ov rfl) tS3 rfl) ?_
            refine R_q _ rfl (v_assign (ov rfl)) ?_
            refine R_q _ rfl (v_assign (ov rfl)) ?_
            refine R_nil ?_
            refine T_keep (kc 1 rfl <| kc 2 rfl <| kc 4 rfl <| kc 7 rfl <| kc 8 rfl <| kc 9 rfl <| kc 10 rfl <| kc 37 rfl <| kc 38 rfl <| kc 39 rfl <| kn) rfl ?_
            refine T_seq (T_reg ?_)
            refine R_q _ rfl (v_assign (ov rfl)) ?_
            refine R_nil ?_
            refine T_joinG id (t1 fun near => ⟨[(1, .int .i64 width), (2, .rp [.int .i64 s.Den, .sl 69 (List.map R69 s.Samples)] 0), (4, .ptr 0 1 0 0), (7, .ptr 1 1 0 0), (8, .sl 3 (List.map R3 y4)), (10, .int .i64 x), (11, .own 3 near.length), (37, .sl 3 (List.map R3 y4)), (38, .int .i64 (y4.length : Int)), (39, .int .i64 i)], [some ⟨24, [[.int .i64 0, .nils]]⟩, some ⟨24, [[.int .i64 s.Den, .own 2 Samples2.length]]⟩, some ⟨69, List.map R69 Samples2⟩, some ⟨3, List.map R3 near⟩]⟩) h (fun h => ?_) (fun j h => ?_)
            · skip
              refine T_seq (T_reg ?_)
              refine R_q _ rfl (v_move (ov rfl)) ?_
              refine R_q _ rfl (v_move (ov rfl)) ?_
              refine R_q _ rfl (v_move (ov rfl)) ?_
              obtain ⟨q2, h_q2, h⟩ := bnd h
              refine R_q _ rfl (v_quoG (ov rfl) (ov rfl) h_q2) ?_
              refine R_q _ rfl (v_sub (ov rfl) (ov rfl) rfl) ?_
              refine R_q _ rfl (v_max (ov rfl) (ov rfl) rfl) ?_
              refine R_q _ rfl (v_move (ov rfl)) ?_
              refine R_q _ rfl (v_len (slv_sl (ov rfl) tZ_3) tL33 (len_map _ _)) ?_
              refine R_q _ rfl (v_move (ov rfl)) ?_
              refine R_q _ rfl (v_move (ov rfl)) ?_
              obtain ⟨q3, h_q3, h⟩ := bnd h
              refine R_q _ rfl (v_quoG (ov rfl) (ov rfl) h_q3) ?_
              refine R_q _ rfl (v_add (ov rfl) (ov rfl) rfl) ?_
              refine R_q _ rfl (v_add (ov rfl) (ov rfl) rfl) ?_
              refine R_q _ rfl (v_min (ov rfl) (ov rfl) rfl) ?_
              obtain ⟨l, h_l, h⟩ := bnd h
              refine R_q _ rfl (v_sliceG (ov rfl) tL33 (oi (ov rfl)) (oi (ov rfl)) h_l) ?_
              refine R_q _ rfl (v_len (slv_sl (ov rfl) tZ_3) tL33 (len_map _ _)) ?_
              refine R_q _ rfl (v_move (ov rfl)) ?_
              refine R_nil ?_
              refine T_block ?_
              obtain ⟨r2, hl2, ho2⟩ := bndL h
              refine T_loopG _ (t2 fun near2 i2 => ⟨[(1, .int .i64 width), (2, .rp [.int .i64 s.Den, .sl 69 (List.map R69 s.Samples)] 0), (4, .ptr 0 1 0 0), (7, .ptr 1 1 0 0), (8, .sl 3 (List.map R3 y4)), (10, .int .i64 x), (11, .own 3 near2.length), (37, .sl 3 (List.map R3 y4)), (38, .int .i64 (y4.length : Int)), (39, .int .i64 i), (58, .sl 3 (List.map R3 l)), (59, .int .i64 (l.length : Int)), (60, .int .i64 i2)], [some ⟨24, [[.int .i64 0, .nils]]⟩, some ⟨24, [[.int .i64 s.Den, .own 2 Samples2.length]]⟩, some ⟨69, List.map R69 Samples2⟩, some ⟨3, List.map R3 near2⟩]⟩) _ hl2 (Ent.sel [some 0, some 1, some 2, none] (sd 1 rfl rfl <| sd 2 rfl rfl <| sr 4 rfl (.ptr _ _ _ rfl) <| sr 7 rfl (.ptr _ _ _ rfl) <| sd 8 rfl rfl <| sd 10 rfl rfl <| sr 11 rfl (.row rfl) <| sd 37 rfl rfl <| sd 38 rfl rfl <| sd 39 rfl rfl <| sd 58 rfl rfl <| sd 59 rfl rfl <| sd 60 rfl rfl <| sn) (.cons rfl (ro1 (by exact tZ_24.symm) (rld rfl)) <| .cons rfl (ro1 (by exact tZ_24.symm) (rlc (.dat rfl) <| rlc (.own _ rfl) <| rln)) <| .cons rfl (roM D69) <| .row 3 <| .nil) rfl rfl) (fun n2 s2 h => ?_)
              obtain ⟨near2, i2⟩ := s2
              replace h := t2i h
              refine t2T ?_
              unfold series_Median_L2 at h
              refine T_seq (T_reg ?_)
              refine R_q _ rfl (v_lss (ov rfl) (ov rfl)) ?_
              refine R_nil ?_
              refine T_seq ?_
              refine T_if h rfl (fun b61 h => ?_) (fun b61 h => ?_)
              · skip
                refine T_skip ?_
                refine T_seq ?_
                refine T_block ?_
                refine T_keep (kc 1 rfl <| kc 2 rfl <| kc 4 rfl <| kc 7 rfl <| kc 8 rfl <| kc 10 rfl <| kc 11 rfl <| kc 37 rfl <| kc 38 rfl <| kc 39 rfl <| kc 58 rfl <| kc 59 rfl <| kc 60 rfl <| kn) rfl ?_
                refine T_seq (T_reg ?_)
                obtain ⟨x2, h_x2, h⟩ := bnd h
                refine R_q _ rfl (v_ixSG (ov rfl) (ov rfl) tL33 h_x2) ?_
                refine R_q _ rfl (v_loadS_r (ov rfl) tS3 rfl) ?_
                refine R_q _ rfl (v_assign (ov rfl)) ?_
                refine R_nil ?_
                refine T_keep (kc 1 rfl <| kc 2 rfl <| kc 4 rfl <| kc 7 rfl <| kc 8 rfl <| kc 10 rfl <| kc 11 rfl <| kc 13 rfl <| kc 37 rfl <| kc 38 rfl <| kc 39 rfl <| kc 58 rfl <| kc 59 rfl <| kc 60 rfl <| kn) rfl ?_
                refine T_reg ?_
                refine R_q _ rfl (v_move (ov rfl)) ?_
                refine R_q _ rfl (v_fieldR (ov rfl) tF24_1) ?_
                refine R_q _ rfl (v_loadS_r (ov rfl) tS22 rfl) ?_
                refine R_q _ rfl (v_move (ov rfl)) ?_
                obtain ⟨x3, h_x3, h⟩ := bnd h
                refine R_q _ rfl (v_ixSG (ov rfl) (ov rfl) tL22 h_x3) ?_
                refine R_q _ rfl (v_fieldR (ov rfl) tF69_1) ?_
                refine R_q _ rfl (v_loadS_r (ov rfl) tS3 rfl) ?_
                refine R_q (.sl 3 (List.map R3 ([x3.N] : List Int))) rfl (v_lit tL33 (.cons (cvs (ov rfl) (cell1_b rfl)) rfl (.cons (.b rfl) .nil) <| .nil) rfl rfl) ?_
                obtain ⟨l2, h_l2, h⟩ := bnd h
                refine R_w _ _ rfl (w_appendG (ov rfl) (slv_sl (ov rfl) tZ_3) tL33 rfl rfl rfl (fun _ => cell1_all rfl) rfl h_l2) ?_
                refine R_q _ rfl (v_assign (ov rfl)) ?_
                refine R_nil ?_
                refine T_keep (kc 1 rfl <| kc 2 rfl <| kc 4 rfl <| kc 7 rfl <| kc 8 rfl <| kc 10 rfl <| kc 11 rfl <| kc 37 rfl <| kc 38 rfl <| kc 39 rfl <| kc 58 rfl <| kc 59 rfl <| kc 60 rfl <| kn) rfl ?_
                refine T_reg ?_
                refine R_q _ rfl (v_add (ov rfl) (ov rfl) rfl) ?_
                refine R_q _ rfl (v_move (ov rfl)) ?_
                refine R_nil ?_
                exact ⟨(l2, (i64 (i2 + 1))), h, Ent.sel [some 0, some 1, some 2, some 3] (sd 1 rfl rfl <| sd 2 rfl rfl <| sr 4 rfl (.ptr _ _ _ rfl) <| sr 7 rfl (.ptr _ _ _ rfl) <| sd 8 rfl rfl <| sd 10 rfl rfl <| sr 11 rfl (.own _ rfl) <| sd 37 rfl rfl <| sd 38 rfl rfl <| sd 39 rfl rfl <| sd 58 rfl rfl <| sd 59 rfl rfl <| sd 60 rfl rfl <| sn) (.cons rfl (ro1 (by exact tZ_24.symm) (rld rfl)) <| .cons rfl (ro1 (by exact tZ_24.symm) (rlc (.dat rfl) <| rlc (.own _ rfl) <| rln)) <| .cons rfl (roM D69) <| .cons rfl (roM D3) <| .nil) rfl rfl⟩
              · skip
                refine T_exit ?_
                rw [lx h] at ho2
                replace h := ho2
                exact ⟨near2, h, Ent.sel [some 0, some 1, some 2, some 3] (sd 1 rfl rfl <| sd 2 rfl rfl <| sr 4 rfl (.ptr _ _ _ rfl) <| sr 7 rfl (.ptr _ _ _ rfl) <| sd 8 rfl rfl <| sd 10 rfl rfl <| sr 11 rfl (.own _ rfl) <| sd 37 rfl rfl <| sd 38 rfl rfl <| sd 39 rfl rfl <| sn) (.cons rfl (ro1 (by exact tZ_24.symm) (rld rfl)) <| .cons rfl (ro1 (by exact tZ_24.symm) (rlc (.dat rfl) <| rlc (.own _ rfl) <| rln)) <| .cons rfl (roM D69) <| .cons rfl (roM D3) <| .nil) rfl rfl⟩
            · skip
              obtain ⟨near, rfl⟩ : ∃ x, x = j := ⟨_, rfl⟩
              replace h := t1i h
              refine t1T ?_
              refine T_ent (Ent.sel [some 0, some 1, some 2, none] (sd 1 rfl rfl <| sd 2 rfl rfl <| sr 4 rfl (.ptr (r' := 0) _ _ _ rfl) <| sr 7 rfl (.ptr (r' := 1) _ _ _ rfl) <| sd 8 rfl rfl <| sd 10 rfl rfl <| sr 11 rfl (frzM rfl rfl rfl D3) <| sd 37 rfl rfl <| sd 38 rfl rfl <| sd 39 rfl rfl <| sn) (.cons rfl (ro1 (by exact tZ_24.symm) (rlc (.dat rfl) <| rlc (.dat rfl) <| rln)) <| .cons rfl (ro1 (by exact tZ_24.symm) (rlc (.dat rfl) <| rlc (.own (r' := 2) _ rfl) <| rln)) <| .cons rfl (roM D69) <| .row 3 <| .nil) rfl rfl) ?_
              refine T_draw (cw := md0) (by kernel_rfl) ?_
              refine D_read 0 _ rfl (by kernel_rfl) rfl rfl rfl ExtW.refl (fun hp' hx => v_fieldP (ov rfl) (hx.get rfl rfl) rfl tF24_1) ?_
              refine D_read 1 _ rfl (by kernel_rfl) rfl rfl rfl ExtW.refl (fun hp' hx => v_loadS (ov rfl) (hx.get rfl rfl) rfl rfl tS22 rfl) ?_
              refine D_free 2 _ rfl (by kernel_rfl) rfl rfl (fun hp' => v_move (ov rfl)) ?_
              refine D_free 3 _ rfl (by kernel_rfl) rfl rfl (fun hp' => v_move (ov rfl)) ?_
              obtain ⟨y5, h_y5, h⟩ := bnd h
              refine D_read 4 _ rfl (by kernel_rfl) rfl rfl rfl ExtW.refl (fun hp' hx => v_call (ok_series_sorted_int h_y5) (.cons (ov rfl) (.b rfl) <| .nil)) ?_
              refine D_free 5 _ rfl (by kernel_rfl) rfl rfl (fun hp' => v_move (ov rfl)) ?_
              refine D_read 6 _ rfl (by kernel_rfl) rfl rfl rfl ExtW.refl (fun hp' hx => v_len (slv_sl (ov rfl) tZ_3) tL33 (len_map _ _)) ?_
              refine D_free 7 _ rfl (by kernel_rfl) rfl rfl (fun hp' => v_sub (ov rfl) (ov rfl) rfl) ?_
              obtain ⟨q4, h_q4, h⟩ := bnd h
              refine D_free 8 _ rfl (by kernel_rfl) rfl rfl (fun hp' => v_quoG (ov rfl) (ov rfl) h_q4) ?_
              obtain ⟨x4, h_x4, h⟩ := bnd h
              refine D_read 9 _ rfl (by kernel_rfl) rfl rfl rfl ExtW.refl (fun hp' hx => v_ixSG (ov rfl) (ov rfl) tL33 h_x4) ?_
              refine D_read 10 _ rfl (by kernel_rfl) rfl rfl rfl ExtW.refl (fun hp' hx => v_loadS_r (ov rfl) tS3 rfl) ?_
              obtain ⟨x5, h_x5, h⟩ := bnd h
              refine D_read 11 _ rfl (by kernel_rfl) rfl rfl rfl ExtW.refl (fun hp' hx => v_ixOG (ov rfl) (ov rfl) tL22 (hx.get rfl rfl) rfl h_x5) ?_
              refine D_read 12 _ rfl (by kernel_rfl) rfl rfl rfl ExtW.refl (fun hp' hx => v_fieldPR (ov rfl) (hx.get rfl rfl) rfl tF69_1) ?_
              refine D_one 13 _ _ rfl (by kernel_rfl) rfl rfl (fun h => by cases h) (fun h => by cases h) (w_storeR (u' := (api_Sample.mk x5.At x4 x5.Mark)) (ov rfl) (ov rfl) (cells_scal tS3) rfl rfl h_x5 rfl (cell1_all rfl) rfl) ?_
              refine D_done (by kernel_rfl) ?_
              refine T_keep (kc 1 rfl <| kc 2 rfl <| kc 4 rfl <| kc 7 rfl <| kc 8 rfl <| kc 37 rfl <| kc 38 rfl <| kc 39 rfl <| kn) rfl ?_
              refine T_reg ?_
              refine R_q _ rfl (v_add (ov rfl) (ov rfl) rfl) ?_
              refine R_q _ rfl (v_move (ov rfl)) ?_
              refine R_nil ?_
              exact ⟨((Samples2.set x.toNat (api_Sample.mk x5.At x4 x5.Mark)), (i64 (i + 1))), h, Ent.sel [some 0, some 1, some 2] (sd 1 rfl rfl <| sd 2 rfl rfl <| sr 4 rfl (.ptr _ _ _ rfl) <| sr 7 rfl (.ptr _ _ _ rfl) <| sd 8 rfl rfl <| sd 37 rfl rfl <| sd 38 rfl rfl <| sd 39 rfl rfl <| sn) (.cons rfl (ro1 (by exact tZ_24.symm) (rld rfl)) <| .cons rfl (ro1 (by exact tZ_24.symm) (rlc (.dat rfl) <| rlc (ownE (Eq.symm ((List.length_set ..).trans rfl)) rfl) <| rln)) <| .cons rfl (roM D69) <| .nil) rfl rfl⟩
          · skip
            refine T_exit ?_
            rw [lx h] at ho1
            replace h := ho1
            exact ⟨Samples2, h, Ent.sel [some 0, some 1, some 2] (sr 4 rfl (.ptr _ _ _ rfl) <| sr 7 rfl (.ptr _ _ _ rfl) <| sn) (.cons rfl (ro1 (by exact tZ_24.symm) (rld rfl)) <| .cons rfl (ro1 (by exact tZ_24.symm) (rlc (.dat rfl) <| rlc (.own _ rfl) <| rln)) <| .cons rfl (roM D69) <| .nil) rfl rfl⟩
        · skip
          obtain ⟨Samples, rfl⟩ : ∃ x, x = j := ⟨_, rfl⟩
          replace h := t1i h
          refine t1T ?_
          refine T_seq (T_reg ?_)
          refine R_q _ rfl (v_loadA (ov rfl) rfl rfl rfl tA24 rfl rfl) ?_
          refine R_w _ _ rfl (w_store (ov rfl) (ov rfl) (cells_agg tA24 rfl) rfl rfl rfl (Nat.le_of_ble_eq_true rfl) (cell1_all rfl) rfl) ?_
          refine R_q _ rfl (v_assign (ov rfl)) ?_
          refine R_nil ?_
          obtain rfl := rt (v := ((api_Series.mk s.Den Samples), 0)) h
          refine T_ret (retq ?_ (.two (.agg rfl rfl rfl rfl tA24 rfl rfl (.cons (Dat.view (.b rfl)) <| .cons (View.ownM rfl rfl D69) <| .nil)) (.tmp rfl (Dat.view (.b rfl)))))
          rfl
      · skip
        refine D_one 4 _ _ rfl (by kernel_rfl) rfl rfl (fun h => by cases h) (fun h => by cases h) (w_callG [] (ok_clone69_o h_y3) (.cons (ov rfl) (.dat rfl) <| .nil) (.nil) rfl (.keep rfl rfl <| .keep rfl rfl <| .lent 0 (.inr ⟨Nat.le_of_ble_eq_true rfl, rfl⟩) rfl (roM D69) <| .nil) rfl rfl (.own _ (.inr ⟨Nat.le_of_ble_eq_true rfl, rfl⟩))) ?_
        refine D_free 5 _ rfl (by kernel_rfl) rfl rfl (fun hp' => v_build (ys := [_, _]) tPL24 tHA24 tZ24 (.cons (cvs (ov rfl) (cell1_b rfl)) <| .cons (cvs (ov rfl) (cell1_b rfl)) <| .nil) rfl) ?_
        refine D_one 7 _ _ rfl (by kernel_rfl) rfl rfl (fun h => by cases h) (fun h => by cases h) (w_store (ov rfl) (ov rfl) (cells_agg tA24 rfl) rfl rfl rfl (Nat.le_of_ble_eq_true rfl) (cell1_all rfl) rfl) ?_
        refine D_done (by kernel_rfl) ?_
        refine T_keep (kc 1 rfl <| kc 2 rfl <| kc 4 rfl <| kc 7 rfl <| kn) rfl ?_
        refine T_seq (T_reg ?_)
        refine R_q _ rfl (v_loadA_r (ov rfl) tA24 rfl rfl) ?_
        obtain ⟨y4, h_y4, h⟩ := bnd h
        refine R_q _ rfl (v_call (ok_series_solids h_y4) (.cons (ov rfl) (.aggB rfl) <| .nil)) ?_
        refine R_q _ rfl (v_assign (ov rfl)) ?_
        refine R_nil ?_
        refine T_joinG id (t1 fun Samples => ⟨[(4, .ptr 0 1 0 0), (7, .ptr 1 1 0 0)], [some ⟨24, [[.int .i64 0, .nils]]⟩, some ⟨24, [[.int .i64 s.Den, .own 2 Samples.length]]⟩, some ⟨69, List.map R69 Samples⟩]⟩) h (fun h => ?_) (fun j h => ?_)
        · skip
          refine T_keep (kc 1 rfl <| kc 2 rfl <| kc 4 rfl <| kc 7 rfl <| kc 8 rfl <| kn) rfl ?_
          refine T_seq (T_reg ?_)
          refine R_q _ rfl (v_move (ov rfl)) ?_
          refine R_q _ rfl (v_len (slv_sl (ov rfl) tZ_3) tL33 (len_map _ _)) ?_
          refine R_q _ rfl (v_move (ov rfl)) ?_
          refine R_nil ?_
          refine T_block ?_
          obtain ⟨r1, hl1, ho1⟩ := bndL h
          refine T_loopG _ (t2 fun Samples2 i => ⟨[(1, .int .i64 width), (2, .rp [.int .i64 s.Den, .sl 69 (List.map R69 s.Samples)] 0), (4, .ptr 0 1 0 0), (7, .ptr 1 1 0 0), (8, .sl 3 (List.map R3 y4)), (37, .sl 3 (List.map R3 y4)), (38, .int .i64 (y4.length : Int)), (39, .int .i64 i)], [some ⟨24, [[.int .i64 0, .nils]]⟩, some ⟨24, [[.int .i64 s.Den, .own 2 Samples2.length]]⟩, some ⟨69, List.map R69 Samples2⟩]⟩) _ hl1 (Ent.sel [some 0, some 1, some 2] (sd 1 rfl rfl <| sd 2 rfl rfl <| sr 4 rfl (.ptr _ _ _ rfl) <| sr 7 rfl (.ptr _ _ _ rfl) <| sd 8 rfl rfl <| sd 37 rfl rfl <| sd 38 rfl rfl <| sd 39 rfl rfl <| sn) (.cons rfl (ro1 (by exact tZ_24.symm) (rld rfl)) <| .cons rfl (ro1 (by exact tZ_24.symm) (rlc (.dat rfl) <| rlc (.own _ rfl) <| rln)) <| .cons rfl (roM D69) <| .nil) rfl rfl) (fun n1 s1 h => ?_)
          obtain ⟨Samples2, i⟩ := s1
          replace h := t2i h
          refine t2T ?_
          unfold series_Median_L1 at h
          refine T_seq (T_reg ?_)
          refine R_q _ rfl (v_lss (ov rfl) (ov rfl)) ?_
          refine R_nil ?_
          refine T_seq ?_
          refine T_if h rfl (fun b40 h => ?_) (fun b40 h => ?_)
          · skip
            refine T_skip ?_
            refine T_seq ?_
            refine T_block ?_
            refine T_keep (kc 1 rfl <| kc 2 rfl <| kc 4 rfl <| kc 7 rfl <| kc 8 rfl <| kc 37 rfl <| kc 38 rfl <| kc 39 rfl <| kn) rfl ?_
            refine T_seq (T_reg ?_)
            refine R_q _ rfl (v_move (ov rfl)) ?_
            obtain ⟨x, h_x, h⟩ := bnd h
            refine R_q _ rfl (v_ixSG (ov rfl) (ov rfl) tL33 h_x) ?_
            refine R_q _ rfl (v_loadS_r (ov rfl) tS3 rfl) ?_
            refine R_q _ rfl (v_assign (ov rfl)) ?_
            refine R_q _ rfl (v_assign (ov rfl)) ?_
            refine R_nil ?_
            refine T_keep (kc 1 rfl <| kc 2 rfl <| kc 4 rfl <| kc 7 rfl <| kc 8 rfl <| kc 9 rfl <| kc 10 rfl <| kc 37 rfl <| kc 38 rfl <| kc 39 rfl <| kn) rfl ?_
            refine T_seq (T_reg ?_)
            refine R_q _ rfl (v_assign (ov rfl)) ?_
            refine R_nil ?_
            refine T_joinG id (t1 fun near => ⟨[(1, .int .i64 width), (2, .rp [.int .i64 s.Den, .sl 69 (List.map R69 s.Samples)] 0), (4, .ptr 0 1 0 0), (7, .ptr 1 1 0 0), (8, .sl 3 (List.map R3 y4)), (10, .int .i64 x), (11, .own 3 near.length), (37, .sl 3 (List.map R3 y4)), (38, .int .i64 (y4.length : Int)), (39, .int .i64 i)], [some ⟨24, [[.int .i64 0, .nils]]⟩, some ⟨24, [[.int .i64 s.Den, .own 2 Samples2.length]]⟩, some ⟨69, List.map R69 Samples2⟩, some ⟨3, List.map R3 near⟩]⟩) h (fun h => ?_) (fun j h => ?_)
            · skip
              refine T_seq (T_reg ?_)
              refine R_q _ rfl (v_move (ov rfl)) ?_
              refine R_q _ rfl (v_move (ov rfl)) ?_
              refine R_q _ rfl (v_move (ov rfl)) ?_
              obtain ⟨q2, h_q2, h⟩ := bnd h
              refine R_q _ rfl (v_quoG (ov rfl) (ov rfl) h_q2) ?_
              refine R_q _ rfl (v_sub (ov rfl) (ov rfl) rfl) ?_
              refine R_q _ rfl (v_max (ov rfl) (ov rfl) rfl) ?_
              refine R_q _ rfl (v_move (ov rfl)) ?_
              refine R_q _ rfl (v_len (slv_sl (ov rfl) tZ_3) tL33 (len_map _ _)) ?_
              refine R_q _ rfl (v_move (ov rfl)) ?_
              refine R_q _ rfl (v_move (ov rfl)) ?_
              obtain ⟨q3, h_q3, h⟩ := bnd h
              refine R_q _ rfl (v_quoG (ov rfl) (ov rfl) h_q3) ?_
              refine R_q _ rfl (v_add (ov rfl) (ov rfl) rfl) ?_
              refine R_q _ rfl (v_add (ov rfl) (ov rfl) rfl) ?_
              refine R_q _ rfl (v_min (ov rfl) (ov rfl) rfl) ?_
              obtain ⟨l, h_l, h⟩ := bnd h
              refine R_q _ rfl (v_sliceG (ov rfl) tL33 (oi (ov rfl)) (oi (ov rfl)) h_l) ?_
              refine R_q _ rfl (v_len (slv_sl (ov rfl) tZ_3) tL33 (len_map _ _)) ?_
              refine R_q _ rfl (v_move (ov rfl)) ?_
              refine R_nil ?_
              refine T_block ?_
              obtain ⟨r2, hl2, ho2⟩ := bndL h
              refine T_loopG _ (t2 fun near2 i2 => ⟨[(1, .int .i64 width), (2, .rp [.int .i64 s.Den, .sl 69 (List.map R69 s.Samples)] 0), (4, .ptr 0 1 0 0), (7, .ptr 1 1 0 0), (8, .sl 3 (List.map R3 y4)), (10, .int .i64 x), (11, .own 3 near2.length), (37, .sl 3 (List.map R3 y4)), (38, .int .i64 (y4.length : Int)), (39, .int .i64 i), (58, .sl 3 (List.map R3 l)), (59, .int .i64 (l.length : Int)), (60, .int .i64 i2)], [some ⟨24, [[.int .i64 0, .nils]]⟩, some ⟨24, [[.int .i64 s.Den, .own 2 Samples2.length]]⟩, some ⟨69, List.map R69 Samples2⟩, some ⟨3, List.map R3 near2⟩]⟩) _ hl2 (Ent.sel [some 0, some 1, some 2, none] (sd 1 rfl rfl <| sd 2 rfl rfl <| sr 4 rfl (.ptr _ _ _ rfl) <| sr 7 rfl (.ptr _ _ _ rfl) <| sd 8 rfl rfl <| sd 10 rfl rfl <| sr 11 rfl (.row rfl) <| sd 37 rfl rfl <| sd 38 rfl rfl <| sd 39 rfl rfl <| sd 58 rfl rfl <| sd 59 rfl rfl <| sd 60 rfl rfl <| sn) (.cons rfl (ro1 (by exact tZ_24.symm) (rld rfl)) <| .cons rfl (ro1 (by exact tZ_24.symm) (rlc (.dat rfl) <| rlc (.own _ rfl) <| rln)) <| .cons rfl (roM D69) <| .row 3 <| .nil) rfl rfl) (fun n2 s2 h => ?_)
              obtain ⟨near2, i2⟩ := s2
              replace h := t2i h
              refine t2T ?_
              unfold series_Median_L2 at h
              refine T_seq (T_reg ?_)
              refine R_q _ rfl (v_lss (ov rfl) (ov rfl)) ?_
              refine R_nil ?_
              refine T_seq ?_
              refine T_if h rfl (fun b61 h => ?_) (fun b61 h => ?_)
              · skip
                refine T_skip ?_
                refine T_seq ?_
                refine T_block ?_
                refine T_keep (kc 1 rfl <| kc 2 rfl <| kc 4 rfl <| kc 7 rfl <| kc 8 rfl <| kc 10 rfl <| kc 11 rfl <| kc 37 rfl <| kc 38 rfl <| kc 39 rfl <| kc 58 rfl <| kc 59 rfl <| kc 60 rfl <| kn) rfl ?_
                refine T_seq (T_reg ?_)
                obtain ⟨x2, h_x2, h⟩ := bnd h
                refine R_q _ rfl (v_ixSG (ov rfl) (ov rfl) tL33 h_x2) ?_
                refine R_q _ rfl (v_loadS_r (ov rfl) tS3 rfl) ?_
                refine R_q _ rfl (v_assign (ov rfl)) ?_
                refine R_nil ?_
                refine T_keep (kc 1 rfl <| kc 2 rfl <| kc 4 rfl <| kc 7 rfl <| kc 8 rfl <| kc 10 rfl <| kc 11 rfl <| kc 13 rfl <| kc 37 rfl <| kc 38 rfl <| kc 39 rfl <| kc 58 rfl <| kc 59 rfl <| kc 60 rfl <| kn) rfl ?_
                refine T_reg ?_
                refine R_q _ rfl (v_move (ov rfl)) ?_
                refine R_q _ rfl (v_fieldR (ov rfl) tF24_1) ?_
                refine R_q _ rfl (v_loadS_r (ov rfl) tS22 rfl) ?_
                refine R_q _ rfl (v_move (ov rfl)) ?_
                obtain ⟨x3, h_x3, h⟩ := bnd h
                refine R_q _ rfl (v_ixSG (ov rfl) (ov rfl) tL22 h_x3) ?_
                refine R_q _ rfl (v_fieldR (ov rfl) tF69_1) ?_
                refine R_q _ rfl (v_loadS_r (ov rfl) tS3 rfl) ?_
                refine R_q (.sl 3 (List.map R3 ([x3.N] : List Int))) rfl (v_lit tL33 (.cons (cvs (ov rfl) (cell1_b rfl)) rfl (.cons (.b rfl) .nil) <| .nil) rfl rfl) ?_
                obtain ⟨l2, h_l2, h⟩ := bnd h
                refine R_w _ _ rfl (w_appendG (ov rfl) (slv_sl (ov rfl) tZ_3) tL33 rfl rfl rfl (fun _ => cell1_all rfl) rfl h_l2) ?_
                refine R_q _ rfl (v_assign (ov rfl)) ?_
                refine R_nil ?_
                refine T_keep (kc 1 rfl <| kc 2 rfl <| kc 4 rfl <| kc 7 rfl <| kc 8 rfl <| kc 10 rfl <| kc 11 rfl <| kc 37 rfl <| kc 38 rfl <| kc 39 rfl <| kc 58 rfl <| kc 59 rfl <| kc 60 rfl <| kn) rfl ?_
                refine T_reg ?_
                refine R_q _ rfl (v_add (ov rfl) (ov rfl) rfl) ?_
                refine R_q _ rfl (v_move (ov rfl)) ?_
                refine R_nil ?_
                exact ⟨(l2, (i64 (i2 + 1))), h, Ent.sel [some 0, some 1, some 2, some 3] (sd 1 rfl rfl <| sd 2 rfl rfl <| sr 4 rfl (.ptr _ _ _ rfl) <| sr 7 rfl (.ptr _ _ _ rfl) <| sd 8 rfl rfl <| sd 10 rfl rfl <| sr 11 rfl (.own _ rfl) <| sd 37 rfl rfl <| sd 38 rfl rfl <| sd 39 rfl rfl <| sd 58 rfl rfl <| sd 59 rfl rfl <| sd 60 rfl rfl <| sn) (.cons rfl (ro1 (by exact tZ_24.symm) (rld rfl)) <| .cons rfl (ro1 (by exact tZ_24.symm) (rlc (.dat rfl) <| rlc (.own _ rfl) <| rln)) <| .cons rfl (roM D69) <| .cons rfl (roM D3) <| .nil) rfl rfl⟩
              · skip
                refine T_exit ?_
                rw [lx h] at ho2
                replace h := ho2
                exact ⟨near2, h, Ent.sel [some 0, some 1, some 2, some 3] (sd 1 rfl rfl <| sd 2 rfl rfl <| sr 4 rfl (.ptr _ _ _ rfl) <| sr 7 rfl (.ptr _ _ _ rfl) <| sd 8 rfl rfl <| sd 10 rfl rfl <| sr 11 rfl (.own _ rfl) <| sd 37 rfl rfl <| sd 38 rfl rfl <| sd 39 rfl rfl <| sn) (.cons rfl (ro1 (by exact tZ_24.symm) (rld rfl)) <| .cons rfl (ro1 (by exact tZ_24.symm) (rlc (.dat rfl) <| rlc (.own _ rfl) <| rln)) <| .cons rfl (roM D69) <| .cons rfl (roM D3) <| .nil) rfl rfl⟩
            · skip
              obtain ⟨near, rfl⟩ : ∃ x, x = j := ⟨_, rfl⟩
              replace h := t1i h
              refine t1T ?_
              refine T_ent (Ent.sel [some 0, some 1, some 2, none] (sd 1 rfl rfl <| sd 2 rfl rfl <| sr 4 rfl (.ptr (r' := 0) _ _ _ rfl) <| sr 7 rfl (.ptr (r' := 1) _ _ _ rfl) <| sd 8 rfl rfl <| sd 10 rfl rfl <| sr 11 rfl (frzM rfl rfl rfl D3) <| sd 37 rfl rfl <| sd 38 rfl rfl <| sd 39 rfl rfl <| sn) (.cons rfl (ro1 (by exact tZ_24.symm) (rlc (.dat rfl) <| rlc (.dat rfl) <| rln)) <| .cons rfl (ro1 (by exact tZ_24.symm) (rlc (.dat rfl) <| rlc (.own (r' := 2) _ rfl) <| rln)) <| .cons rfl (roM D69) <| .row 3 <| .nil) rfl rfl) ?_
              refine T_draw (cw := md0) (by kernel_rfl) ?_
              refine D_read 0 _ rfl (by kernel_rfl) rfl rfl rfl ExtW.refl (fun hp' hx => v_fieldP (ov rfl) (hx.get rfl rfl) rfl tF24_1) ?_
              refine D_read 1 _ rfl (by kernel_rfl) rfl rfl rfl ExtW.refl (fun hp' hx => v_loadS (ov rfl) (hx.get rfl rfl) rfl rfl tS22 rfl) ?_
              refine D_free 2 _ rfl (by kernel_rfl) rfl rfl (fun hp' => v_move (ov rfl)) ?_
              refine D_free 3 _ rfl (by kernel_rfl) rfl rfl (fun hp' => v_move (ov rfl)) ?_
              obtain ⟨y5, h_y5, h⟩ := bnd h
              refine D_read 4 _ rfl (by kernel_rfl) rfl rfl rfl ExtW.refl (fun hp' hx => v_call (ok_series_sorted_int h_y5) (.cons (ov rfl) (.b rfl) <| .nil)) ?_
              refine D_free 5 _ rfl (by kernel_rfl) rfl rfl (fun hp' => v_move (ov rfl)) ?_
              refine D_read 6 _ rfl (by kernel_rfl) rfl rfl rfl ExtW.refl (fun hp' hx => v_len (slv_sl (ov rfl) tZ_3) tL33 (len_map _ _)) ?_
              refine D_free 7 _ rfl (by kernel_rfl) rfl rfl (fun hp' => v_sub (ov rfl) (ov rfl) rfl) ?_
              obtain ⟨q4, h_q4, h⟩ := bnd h
              refine D_free 8 _ rfl (by kernel_rfl) rfl rfl (fun hp' => v_quoG (ov rfl) (ov rfl) h_q4) ?_
              obtain ⟨x4, h_x4, h⟩ := bnd h
              refine D_read 9 _ rfl (by kernel_rfl) rfl rfl rfl ExtW.refl (fun hp' hx => v_ixSG (ov rfl) (ov rfl) tL33 h_x4) ?_
              refine D_read 10 _ rfl (by kernel_rfl) rfl rfl rfl ExtW.refl (fun hp' hx => v_loadS_r (ov rfl) tS3 rfl) ?_
              obtain ⟨x5, h_x5, h⟩ := bnd h
              refine D_read 11 _ rfl (by kernel_rfl) rfl rfl rfl ExtW.refl (fun hp' hx => v_ixOG (ov rfl) (ov rfl) tL22 (hx.get rfl rfl) rfl h_x5) ?_
              refine D_read 12 _ rfl (by kernel_rfl) rfl rfl rfl ExtW.refl (fun hp' hx => v_fieldPR (ov rfl) (hx.get rfl rfl) rfl tF69_1) ?_
              refine D_one 13 _ _ rfl (by kernel_rfl) rfl rfl (fun h => by cases h) (fun h => by cases h) (w_storeR (u' := (api_Sample.mk x5.At x4 x5.Mark)) (ov rfl) (ov rfl) (cells_scal tS3) rfl rfl h_x5 rfl (cell1_all rfl) rfl) ?_
              refine D_done (by kernel_rfl) ?_
              refine T_keep (kc 1 rfl <| kc 2 rfl <| kc 4 rfl <| kc 7 rfl <| kc 8 rfl <| kc 37 rfl <| kc 38 rfl <| kc 39 rfl <| kn) rfl ?_
              refine T_reg ?_
              refine R_q _ rfl (v_add (ov rfl) (ov rfl) rfl) ?_
              refine R_q _ rfl (v_move (ov rfl)) ?_
              refine R_nil ?_
              exact ⟨((Samples2.set x.toNat (api_Sample.mk x5.At x4 x5.Mark)), (i64 (i + 1))), h, Ent.sel [some 0, some 1, some 2] (sd 1 rfl rfl <| sd 2 rfl rfl <| sr 4 rfl (.ptr _ _ _ rfl) <| sr 7 rfl (.ptr _ _ _ rfl) <| sd 8 rfl rfl <| sd 37 rfl rfl <| sd 38 rfl rfl <| sd 39 rfl rfl <| sn) (.cons rfl (ro1 (by exact tZ_24.symm) (rld rfl)) <| .cons rfl (ro1 (by exact tZ_24.symm) (rlc (.dat rfl) <| rlc (ownE (Eq.symm ((List.length_set ..).trans rfl)) rfl) <| rln)) <| .cons rfl (roM D69) <| .nil) rfl rfl⟩
          · skip
            refine T_exit ?_
            rw [lx h] at ho1
            replace h := ho1
            exact ⟨Samples2, h, Ent.sel [some 0, some 1, some 2] (sr 4 rfl (.ptr _ _ _ rfl) <| sr 7 rfl (.ptr _ _ _ rfl) <| sn) (.cons rfl (ro1 (by exact tZ_24.symm) (rld rfl)) <| .cons rfl (ro1 (by exact tZ_24.symm) (rlc (.dat rfl) <| rlc (.own _ rfl) <| rln)) <| .cons rfl (roM D69) <| .nil) rfl rfl⟩
        · skip
          obtain ⟨Samples, rfl⟩ : ∃ x, x = j := ⟨_, rfl⟩
          replace h := t1i h
          refine t1T ?_
          refine T_seq (T_reg ?_)
          refine R_q _ rfl (v_loadA (ov rfl) rfl rfl rfl tA24 rfl rfl) ?_
          refine R_w _ _ rfl (w_store (ov rfl) (ov rfl) (cells_agg tA24 rfl) rfl rfl rfl (Nat.le_of_ble_eq_true rfl) (cell1_all rfl) rfl) ?_
          refine R_q _ rfl (v_assign (ov rfl)) ?_
          refine R_nil ?_
          obtain rfl := rt (v := ((api_Series.mk s.Den Samples), 0)) h
          refine T_ret (retq ?_ (.two (.agg rfl rfl rfl rfl tA24 rfl rfl (.cons (Dat.view (.b rfl)) <| .cons (View.ownM rfl rfl D69) <| .nil)) (.tmp rfl (Dat.view (.b rfl)))))
          rfl

theorem ok_istrconv_small {i : Int} {r : Str} (h : istrconv_small i = some r) :
    CSpec Tryd.prog gl0 109 [.int .i64 i] (.str r) := by
  unfold istrconv_small at h
  replace h := bnd0 h
  refine spec_of (by kernel_rfl) Tryd.func109 rfl rfl ?_
  intro w0 A
  refine T_seq (T_reg ?_)
  refine R_q _ rfl (v_assign (ov rfl)) ?_
  refine R_nil ?_
  refine T_seq ?_
  refine T_keep (kc 0 rfl <| kn) rfl ?_
  refine T_seq (T_reg ?_)
  refine R_q _ rfl (v_move (ov rfl)) ?_
  refine R_q _ rfl (v_lss (ov rfl) (ov rfl)) ?_
  refine R_nil ?_
  refine T_keep (kc 0 rfl <| kc 4 rfl <| kn) rfl ?_
  refine T_if h rfl (fun b4 h => ?_) (fun b4 h => ?_)
  · skip
    refine T_keep (kc 0 rfl <| kn) rfl ?_
    refine T_seq (T_reg ?_)
    refine R_q _ rfl (v_move (ov rfl)) ?_
    refine R_q _ rfl (v_move (ov rfl)) ?_
    refine R_q _ rfl (v_add (ov rfl) (ov rfl) rfl) ?_
    obtain ⟨s, h_s, h⟩ := bnd h
    refine R_q _ rfl (v_sliceStrG (ov rfl) tStr9 (oi (ov rfl)) (oi (ov rfl)) h_s) ?_
    refine R_q _ rfl (v_assign (ov rfl)) ?_
    refine R_nil ?_
    obtain rfl := rt (v := s) h
    refine T_ret (retq ?_ (.one (.tmp rfl (Dat.view (.b rfl)))))
    rfl
  · skip
    refine T_skip ?_
    refine T_keep (kc 0 rfl <| kn) rfl ?_
    refine T_seq (T_reg ?_)
    refine R_q _ rfl (v_move (ov rfl)) ?_
    refine R_q _ rfl (v_mul (ov rfl) (ov rfl) rfl) ?_
    refine R_q _ rfl (v_move (ov rfl)) ?_
    refine R_q _ rfl (v_mul (ov rfl) (ov rfl) rfl) ?_
    refine R_q _ rfl (v_add (ov rfl) (ov rfl) rfl) ?_
    obtain ⟨s2, h_s2, h⟩ := bnd h
    refine R_q _ rfl (v_sliceStrG (ov rfl) tStr9 (oi (ov rfl)) (oi (ov rfl)) h_s2) ?_
    refine R_q _ rfl (v_assign (ov rfl)) ?_
    refine R_nil ?_
    obtain rfl := rt (v := s2) h
    refine T_ret (retq ?_ (.one (.tmp rfl (Dat.view (.b rfl)))))
    rfl

theorem ok_numDigits {u r : Int} (h : numDigits u = some r) : CSpec Tryd.prog gl0 110 [.int .u64 u] (.int .i64 r) :=
  ok_numDigitsC (g := 0) (by kernel_rfl) (by kernel_rfl) (by simp [gl0]) (fun _ h1 h2 _ ht => Any.internal_strconv_numDigits Tryd.laysM284 _ h1 h2 _ ht) h

theorem ok_fmt10L {v r : Vector Int 24} {n : Nat} {u : Int} (h : fmt10 v n u = some r) :
    GSpec Tryd.prog gl0 111 [.osl 0 1 (0 + Int.toNat 0) n, .int .u64 u] [some ⟨139, [(List.map C5 v.toList)]⟩] (.tuple []) [some ⟨139, [(List.map C5 r.toList)]⟩] :=
  ok_fmt10 (by kernel_rfl) rfl tZ_139 (fun _ _ _ _ _ _ h1 h2 h3 h4 => Any.internal_strconv_formatBase10 Tryd.lays285 _ _ _ _ _ _ h1 h2 h3 h4) h

theorem ok_istrconv_AppendUint {dst_ : List Int} {i : Int} {base : Int} {r : (List Int)} (h : istrconv_AppendUint dst_ i base = some r) :
    GSpec Tryd.prog gl0 102 [.own 0 dst_.length, .int .u64 i, .int .i64 base] [some ⟨5, List.map R5 dst_⟩] (.own 0 r.length) [some ⟨5, List.map R5 r⟩] := by
  unfold istrconv_AppendUint at h
  replace h := bnd0 h
  refine gspec_of (by kernel_rfl) Tryd.func102 rfl rfl ?_
  intro w0 A W φ0
  refine T_seq (T_reg ?_)
  refine R_q _ rfl (v_assign (ov rfl)) ?_
  refine R_nil ?_
  refine T_seq ?_
  refine T_keep (kc 0 rfl <| kc 1 rfl <| kc 2 rfl <| kn) rfl ?_
  refine T_seq (T_reg ?_)
  refine R_q _ rfl (v_move (ov rfl)) ?_
  refine R_q _ rfl (v_eql (ov rfl) (ov rfl)) ?_
  refine R_nil ?_
  refine T_keep (kc 0 rfl <| kc 1 rfl <| kc 2 rfl <| kc 10 rfl <| kn) rfl ?_
  refine T_if h rfl (fun b10 h => ?_) (fun b10 h => ?_)
  · skip
    refine T_seq ?_
    refine T_keep (kc 0 rfl <| kc 1 rfl <| kn) rfl ?_
    refine T_seq (T_reg ?_)
    refine R_q _ rfl (v_move (ov rfl)) ?_
    refine R_q _ rfl (v_lss (ov rfl) (ov rfl)) ?_
    refine R_nil ?_
    refine T_keep (kc 0 rfl <| kc 1 rfl <| kc 12 rfl <| kn) rfl ?_
    refine T_if h rfl (fun b12 h => ?_) (fun b12 h => ?_)
    · skip
      refine T_keep (kc 0 rfl <| kc 1 rfl <| kn) rfl ?_
      refine T_seq (T_reg ?_)
      refine R_q _ rfl (v_move (ov rfl)) ?_
      refine R_q _ rfl (v_move (ov rfl)) ?_
      refine R_q _ rfl (v_conv (ov rfl) tI101 tI3 rfl) ?_
      obtain ⟨y, h_y, h⟩ := bnd h
      refine R_q _ rfl (v_call (ok_istrconv_small h_y) (.cons (ov rfl) (.b rfl) <| .nil)) ?_
      obtain ⟨l, h_l, h⟩ := bnd h
      refine R_w _ _ rfl (w_appendStrG (f := R5) (ov rfl) (ov rfl) tStr9 tL61 rfl rfl (fun _ => rfl) rfl h_l) ?_
      refine R_q _ rfl (v_assign (ov rfl)) ?_
      refine R_nil ?_
      obtain rfl := rt (v := l) h
      refine T_ret ?_
      exact retg [some 0] rfl (.cons (.tmp rfl) <| .nil) (.cons rfl (roM D5) <| .nil) rfl rfl (.own _ rfl)
    · skip
      refine T_skip ?_
      refine T_keep (kc 0 rfl <| kc 1 rfl <| kn) rfl ?_
      refine T_seq (T_reg ?_)
      refine R_w _ _ rfl (w_alloc (row := (List.map C5 (Vector.replicate 24 0).toList)) 1 rfl tZ139 rfl tZ_139) ?_
      refine R_nil ?_
      refine T_seq (T_reg ?_)
      refine R_q _ rfl (v_move (ov rfl)) ?_
      obtain ⟨y2, h_y2, h⟩ := bnd h
      refine R_q _ rfl (v_call (ok_numDigits h_y2) (.cons (ov rfl) (.b rfl) <| .nil)) ?_
      refine R_q _ rfl (v_assign (ov rfl)) ?_
      refine R_nil ?_
      refine T_keep (kc 0 rfl <| kc 1 rfl <| kc 7 rfl <| kc 8 rfl <| kn) rfl ?_
      refine T_seq (T_reg ?_)
      refine R_q _ rfl (v_move (ov rfl)) ?_
      obtain ⟨l2, h_l2, h⟩ := bnd h
      refine R_q _ rfl (v_slArr (ov rfl) tR139 rfl rfl on (oi (ov rfl)) h_l2) ?_
      refine R_q _ rfl (v_move (ov rfl)) ?_
      obtain ⟨y3, h_y3, h⟩ := bnd h
      refine R_w _ _ rfl (w_callG [1] (ok_fmt10L h_y3) (.cons (ov rfl) (.osl _ _ _ rfl) <| .cons (ov rfl) (.dat rfl) <| .nil) (.cons rfl (ro1 (arL.trans tZ_139.symm) (rld (arD fun _ => rfl))) <| .nil) rfl (.keep rfl rfl <| .lent 0 (.inl rfl) rfl (ro1 (arL.trans tZ_139.symm) (rld (arD fun _ => rfl))) <| .nil) rfl rfl (rTup (rld rfl))) ?_
      refine R_nil ?_
      refine T_keep (kc 0 rfl <| kc 7 rfl <| kc 8 rfl <| kn) rfl ?_
      refine T_seq (T_reg ?_)
      refine R_q _ rfl (v_move (ov rfl)) ?_
      refine R_q _ rfl (v_move (ov rfl)) ?_
      obtain ⟨l3, h_l3, h⟩ := bnd h
      refine R_q _ rfl (v_slArr (ov rfl) tR139 rfl rfl on (oi (ov rfl)) h_l3) ?_
      obtain ⟨l4, h_l4, h⟩ := bnd h
      obtain ⟨l5, h_l5, h⟩ := bnd h
      refine R_w _ _ rfl (w_appendZ (f := R5) (ov rfl) (slv_osl (f := C5) (ov rfl) h_l4 rfl rfl) tL61 rfl rfl (fun _ => cell1_all rfl) rfl h_l5) ?_
      refine R_q _ rfl (v_assign (ov rfl)) ?_
      refine R_nil ?_
      obtain rfl := rt (v := l5) h
      refine T_ret ?_
      exact retg [some 0] rfl (.cons (.tmp rfl) <| .nil) (.cons rfl (roM D5) <| .nil) rfl rfl (.own _ rfl)
  · skip
    refine T_skip ?_
    exact (noneB h).elim

theorem ok_istrconv_AppendInt {dst_ : List Int} {i : Int} {base : Int} {r : (List Int)} (h : istrconv_AppendInt dst_ i base = some r) :
    GSpec Tryd.prog gl0 90 [.own 0 dst_.length, .int .i64 i, .int .i64 base] [some ⟨5, List.map R5 dst_⟩] (.own 0 r.length) [some ⟨5, List.map R5 r⟩] := by
  unfold istrconv_AppendInt at h
  replace h := bnd0 h
  refine gspec_of (by kernel_rfl) Tryd.func90 rfl rfl ?_
  intro w0 A W φ0
  refine T_seq (T_reg ?_)
  refine R_q _ rfl (v_assign (ov rfl)) ?_
  refine R_nil ?_
  refine T_keep (kc 0 rfl <| kc 1 rfl <| kc 2 rfl <| kn) rfl ?_
  refine T_seq (T_reg ?_)
  refine R_q _ rfl (v_move (ov rfl)) ?_
  refine R_q _ rfl (v_conv (ov rfl) tI2 tI101 rfl) ?_
  refine R_q _ rfl (v_assign (ov rfl)) ?_
  refine R_nil ?_
  refine T_joinG id (t2 fun o u => ⟨[(0, .own 0 o.length), (2, .int .i64 base), (7, .int .u64 u)], [some ⟨5, List.map R5 o⟩]⟩) h (fun h => ?_) (fun j h => ?_)
  · skip
    refine T_keep (kc 0 rfl <| kc 1 rfl <| kc 2 rfl <| kc 7 rfl <| kn) rfl ?_
    refine T_seq (T_reg ?_)
    refine R_q _ rfl (v_move (ov rfl)) ?_
    refine R_q _ rfl (v_lss (ov rfl) (ov rfl)) ?_
    refine R_nil ?_
    refine T_keep (kc 0 rfl <| kc 2 rfl <| kc 7 rfl <| kc 11 rfl <| kn) rfl ?_
    refine T_if h rfl (fun b11 h => ?_) (fun b11 h => ?_)
    · skip
      refine T_keep (kc 0 rfl <| kc 2 rfl <| kc 7 rfl <| kn) rfl ?_
      refine T_seq (T_reg ?_)
      refine R_q _ rfl (v_move (ov rfl)) ?_
      refine R_q (.sl 5 (List.map R5 ([45] : List Int))) rfl (v_lit tL61 (.cons (cvs (ov rfl) (cell1_b rfl)) rfl (.cons (.b rfl) .nil) <| .nil) rfl rfl) ?_
      obtain ⟨l, h_l, h⟩ := bnd h
      refine R_w _ _ rfl (w_appendG (ov rfl) (slv_sl (ov rfl) tZ_5) tL61 rfl rfl rfl (fun _ => cell1_all rfl) rfl h_l) ?_
      refine R_q _ rfl (v_assign (ov rfl)) ?_
      refine R_nil ?_
      refine T_keep (kc 0 rfl <| kc 2 rfl <| kc 7 rfl <| kn) rfl ?_
      refine T_reg ?_
      refine R_q _ rfl (v_move (ov rfl)) ?_
      refine R_q _ rfl (v_neg (ov rfl) rfl) ?_
      refine R_q _ rfl (v_assign (ov rfl)) ?_
      refine R_nil ?_
      exact ⟨(l, (u64 (-(u64 i)))), h, Ent.sel [some 0] (sr 0 rfl (.own _ rfl) <| sd 2 rfl rfl <| sd 7 rfl rfl <| sn) (.cons rfl (roM D5) <| .nil) rfl rfl⟩
    · skip
      refine T_skip ?_
      exact ⟨(dst_, (u64 i)), h, Ent.sel [some 0] (sr 0 rfl (.own _ rfl) <| sd 2 rfl rfl <| sd 7 rfl rfl <| sn) (.cons rfl (roM D5) <| .nil) rfl rfl⟩
  · skip
    obtain ⟨o, u⟩ := j
    replace h := t2i h
    refine t2T ?_
    refine T_seq (T_reg ?_)
    refine R_q _ rfl (v_move (ov rfl)) ?_
    refine R_q _ rfl (v_move (ov rfl)) ?_
    refine R_q _ rfl (v_move (ov rfl)) ?_
    obtain ⟨y, h_y, h⟩ := bnd h
    refine R_w _ _ rfl (w_callG [0] (ok_istrconv_AppendUint h_y) (.cons (ov rfl) (.own _ rfl) <| .cons (ov rfl) (.dat rfl) <| .cons (ov rfl) (.dat rfl) <| .nil) (.cons rfl (roM D5) <| .nil) rfl (.lent 0 (.inl rfl) rfl (roM D5) <| .nil) rfl rfl (.own _ (.inl rfl))) ?_
    refine R_q _ rfl (v_assign (ov rfl)) ?_
    refine R_nil ?_
    obtain rfl := rt (v := y) h
    refine T_ret ?_
    exact retg [some 0] rfl (.cons (.tmp rfl) <| .nil) (.cons rfl (roM D5) <| .nil) rfl rfl (.own _ rfl)

theorem ok_strconv_AppendInt {dst_ : List Int} {i : Int} {base : Int} {r : (List Int)} (h : strconv_AppendInt dst_ i base = some r) :
    GSpec Tryd.prog gl0 83 [.own 0 dst_.length, .int .i64 i, .int .i64 base] [some ⟨5, List.map R5 dst_⟩] (.own 0 r.length) [some ⟨5, List.map R5 r⟩] := by
  unfold strconv_AppendInt at h
  replace h := bnd0 h
  refine gspec_of (by kernel_rfl) Tryd.func83 rfl rfl ?_
  intro w0 A W φ0
  refine T_seq (T_reg ?_)
  refine R_q _ rfl (v_assign (ov rfl)) ?_
  refine R_nil ?_
  refine T_seq (T_reg ?_)
  refine R_q _ rfl (v_move (ov rfl)) ?_
  refine R_q _ rfl (v_move (ov rfl)) ?_
  refine R_q _ rfl (v_move (ov rfl)) ?_
  obtain ⟨y, h_y, h⟩ := bnd h
  refine R_w _ _ rfl (w_callG [0] (ok_istrconv_AppendInt h_y) (.cons (ov rfl) (.own _ rfl) <| .cons (ov rfl) (.dat rfl) <| .cons (ov rfl) (.dat rfl) <| .nil) (.cons rfl (roM D5) <| .nil) rfl (.lent 0 (.inl rfl) rfl (roM D5) <| .nil) rfl rfl (.own _ (.inl rfl))) ?_
  refine R_q _ rfl (v_assign (ov rfl)) ?_
  refine R_nil ?_
  obtain rfl := rt (v := y) h
  refine T_ret ?_
  exact retg [some 0] rfl (.cons (.tmp rfl) <| .nil) (.cons rfl (roM D5) <| .nil) rfl rfl (.own _ rfl)

theorem ok_ref0_Ink_Int_w {k : ref0_Ink} {n : Int} {r : ref0_Ink} (h : ref0_Ink_Int k n = some r) :
    GSpec Tryd.prog gl0 70 [.ptr 0 1 0 0, .int .i64 n] [some ⟨63, [[.own 1 k.out.length]]⟩, some ⟨5, List.map R5 k.out⟩] (.tuple []) [some ⟨63, [[.own 1 r.out.length]]⟩, some ⟨5, List.map R5 r.out⟩] := by
  unfold ref0_Ink_Int at h
  replace h := bnd0 h
  refine gspec_of (by kernel_rfl) Tryd.func70 rfl rfl ?_
  intro w0 A W φ0
  refine T_seq (T_reg ?_)
  refine R_q _ rfl (v_move (ov rfl)) ?_
  refine R_q _ rfl (v_move (ov rfl)) ?_
  refine R_q _ rfl (v_nilCheckP (ov rfl) rfl rfl) ?_
  refine R_q _ rfl (v_fieldP (ov rfl) rfl rfl tF63_0) ?_
  refine R_q _ rfl (v_loadS (ov rfl) rfl rfl rfl tS61 rfl) ?_
  refine R_q _ rfl (v_move (ov rfl)) ?_
  obtain ⟨y, h_y, h⟩ := bnd h
  refine R_w _ _ rfl (w_callG [1] (ok_strconv_AppendInt h_y) (.cons (ov rfl) (.own _ rfl) <| .cons (ov rfl) (.dat rfl) <| .cons (ov rfl) (.dat rfl) <| .nil) (.cons rfl (roM D5) <| .nil) rfl (.keep rfl rfl <| .lent 0 (.inl rfl) rfl (roM D5) <| .nil) rfl rfl (.own _ (.inl rfl))) ?_
  refine R_q _ rfl (v_nilCheckP (ov rfl) rfl rfl) ?_
  refine R_q _ rfl (v_fieldP (ov rfl) rfl rfl tF63_0) ?_
  refine R_w _ _ rfl (w_store (ov rfl) (ov rfl) (cells_scal tS61) rfl rfl rfl (Nat.le_of_ble_eq_true rfl) (cell1_all rfl) rfl) ?_
  refine R_nil ?_
  refine T_keep (kc 0 rfl <| kn) rfl ?_
  refine T_reg ?_
  refine R_q _ rfl (v_move (ov rfl)) ?_
  refine R_q _ rfl (v_move (ov rfl)) ?_
  refine R_q _ rfl (v_nilCheckP (ov rfl) rfl rfl) ?_
  refine R_q _ rfl (v_fieldP (ov rfl) rfl rfl tF63_0) ?_
  refine R_q _ rfl (v_loadS (ov rfl) rfl rfl rfl tS61 rfl) ?_
  refine R_q (.sl 5 (List.map R5 ([32] : List Int))) rfl (v_lit tL61 (.cons (cvs (ov rfl) (cell1_b rfl)) rfl (.cons (.b rfl) .nil) <| .nil) rfl rfl) ?_
  obtain ⟨l, h_l, h⟩ := bnd h
  refine R_w _ _ rfl (w_appendG (ov rfl) (slv_sl (ov rfl) tZ_5) tL61 rfl rfl rfl (fun _ => cell1_all rfl) rfl h_l) ?_
  refine R_q _ rfl (v_nilCheckP (ov rfl) rfl rfl) ?_
  refine R_q _ rfl (v_fieldP (ov rfl) rfl rfl tF63_0) ?_
  refine R_w _ _ rfl (w_store (ov rfl) (ov rfl) (cells_scal tS61) rfl rfl rfl (Nat.le_of_ble_eq_true rfl) (cell1_all rfl) rfl) ?_
  refine R_nil ?_
  obtain rfl := rt (v := (ref0_Ink.mk l)) h
  exact retgn [some 0, some 1] rfl (.nil) (.cons rfl (ro1 (by exact tZ_63.symm) (rlc (.own _ rfl) <| rln)) <| .cons rfl (roM D5) <| .nil) rfl rfl (rTup (rln))

theorem ok_ref0_Ink_Ints_w {k : ref0_Ink} {l : List Int} {r : ref0_Ink} (h : ref0_Ink_Ints k l = some r) :
    GSpec Tryd.prog gl0 50 [.ptr 0 1 0 0, .sl 3 (List.map R3 l)] [some ⟨63, [[.own 1 k.out.length]]⟩, some ⟨5, List.map R5 k.out⟩] (.tuple []) [some ⟨63, [[.own 1 r.out.length]]⟩, some ⟨5, List.map R5 r.out⟩] := by
  unfold ref0_Ink_Ints at h
  replace h := bnd0 h
  refine gspec_of (by kernel_rfl) Tryd.func50 rfl rfl ?_
  intro w0 A W φ0
  refine T_seq (T_reg ?_)
  refine R_q _ rfl (v_move (ov rfl)) ?_
  refine R_q _ rfl (v_move (ov rfl)) ?_
  refine R_q _ rfl (v_len (slv_sl (ov rfl) tZ_3) tL33 (len_map _ _)) ?_
  obtain ⟨y, h_y, h⟩ := bnd h
  refine R_w _ _ rfl (w_callG [0, 1] (ok_ref0_Ink_Int_w h_y) (.cons (ov rfl) (.ptr _ _ _ rfl) <| .cons (ov rfl) (.dat rfl) <| .nil) (.cons rfl (ro1 (by exact tZ_63.symm) (rlc (.own _ rfl) <| rln)) <| .cons rfl (roM D5) <| .nil) rfl (.lent 0 (.inl rfl) rfl (ro1 (by exact tZ_63.symm) (rlc (.own _ (.inl rfl)) <| rln)) <| .lent 1 (.inl rfl) rfl (roM D5) <| .nil) rfl rfl (rTup (rld rfl))) ?_
  refine R_nil ?_
  refine T_keep (kc 0 rfl <| kc 1 rfl <| kn) rfl ?_
  refine T_seq (T_reg ?_)
  refine R_q _ rfl (v_assign (ov rfl)) ?_
  refine R_nil ?_
  refine T_block ?_
  obtain ⟨r1, hl1, ho1⟩ := bndL h
  refine T_loopG _ (t2 fun out i => ⟨[(0, .ptr 0 1 0 0), (1, .sl 3 (List.map R3 l)), (4, .int .i64 i)], [some ⟨63, [[.own 1 out.length]]⟩, some ⟨5, List.map R5 out⟩]⟩) _ hl1 (Ent.sel [some 0, some 1] (sr 0 rfl (.ptr _ _ _ rfl) <| sd 1 rfl rfl <| sd 4 rfl rfl <| sn) (.cons rfl (ro1 (by exact tZ_63.symm) (rlc (.own _ rfl) <| rln)) <| .cons rfl (roM D5) <| .nil) rfl rfl) (fun n1 s1 h => ?_)
  obtain ⟨out, i⟩ := s1
  replace h := t2i h
  refine t2T ?_
  unfold ref0_Ink_Ints_L1 at h
  refine T_seq ?_
  refine T_seq (T_reg ?_)
  refine R_q _ rfl (v_move (ov rfl)) ?_
  refine R_q _ rfl (v_move (ov rfl)) ?_
  refine R_q _ rfl (v_len (slv_sl (ov rfl) tZ_3) tL33 (len_map _ _)) ?_
  refine R_q _ rfl (v_lss (ov rfl) (ov rfl)) ?_
  refine R_nil ?_
  refine T_keep (kc 0 rfl <| kc 1 rfl <| kc 4 rfl <| kc 12 rfl <| kn) rfl ?_
  refine T_if h rfl (fun b12 h => ?_) (fun b12 h => ?_)
  · skip
    refine T_skip ?_
    refine T_seq ?_
    refine T_block ?_
    refine T_keep (kc 0 rfl <| kc 1 rfl <| kc 4 rfl <| kn) rfl ?_
    refine T_reg ?_
    refine R_q _ rfl (v_move (ov rfl)) ?_
    refine R_q _ rfl (v_move (ov rfl)) ?_
    refine R_q _ rfl (v_move (ov rfl)) ?_
    obtain ⟨x, h_x, h⟩ := bnd h
    refine R_q _ rfl (v_ixSG (ov rfl) (ov rfl) tL33 h_x) ?_
    refine R_q _ rfl (v_loadS_r (ov rfl) tS3 rfl) ?_
    obtain ⟨y2, h_y2, h⟩ := bnd h
    refine R_w _ _ rfl (w_callG [0, 1] (ok_ref0_Ink_Int_w h_y2) (.cons (ov rfl) (.ptr _ _ _ rfl) <| .cons (ov rfl) (.dat rfl) <| .nil) (.cons rfl (ro1 (by exact tZ_63.symm) (rlc (.own _ rfl) <| rln)) <| .cons rfl (roM D5) <| .nil) rfl (.lent 0 (.inl rfl) rfl (ro1 (by exact tZ_63.symm) (rlc (.own _ (.inl rfl)) <| rln)) <| .lent 1 (.inl rfl) rfl (roM D5) <| .nil) rfl rfl (rTup (rld rfl))) ?_
    refine R_nil ?_
    refine T_keep (kc 0 rfl <| kc 1 rfl <| kc 4 rfl <| kn) rfl ?_
    refine T_reg ?_
    refine R_q _ rfl (v_move (ov rfl)) ?_
    refine R_q _ rfl (v_add (ov rfl) (ov rfl) rfl) ?_
    refine R_q _ rfl (v_assign (ov rfl)) ?_
    refine R_nil ?_
    exact ⟨(y2.out, (i64 (i + 1))), h, Ent.sel [some 0, some 1] (sr 0 rfl (.ptr _ _ _ rfl) <| sd 1 rfl rfl <| sd 4 rfl rfl <| sn) (.cons rfl (ro1 (by exact tZ_63.symm) (rlc (.own _ rfl) <| rln)) <| .cons rfl (roM D5) <| .nil) rfl rfl⟩
  · skip
    refine T_exit ?_
    rw [lx h] at ho1
    replace h := ho1
    obtain rfl := rt (v := (ref0_Ink.mk out)) h
    exact retgn [some 0, some 1] rfl (.nil) (.cons rfl (ro1 (by exact tZ_63.symm) (rlc (.own _ rfl) <| rln)) <| .cons rfl (roM D5) <| .nil) rfl rfl (rTup (rln))

theorem ok_ref0_Ink_Sample_w {k : ref0_Ink} {x : api_Sample} {r : ref0_Ink} (h : ref0_Ink_Sample k x = some r) :
    GSpec Tryd.prog gl0 71 [.ptr 0 1 0 0, .agg [.int .i64 x.At, .int .i64 x.N, .int .i64 x.Mark]] [some ⟨63, [[.own 1 k.out.length]]⟩, some ⟨5, List.map R5 k.out⟩] (.tuple []) [some ⟨63, [[.own 1 r.out.length]]⟩, some ⟨5, List.map R5 r.out⟩] := by
  unfold ref0_Ink_Sample at h
  replace h := bnd0 h
  refine gspec_of (by kernel_rfl) Tryd.func71 rfl rfl ?_
  intro w0 A W φ0
  refine T_seq (T_reg ?_)
  refine R_q _ rfl (v_boxD (cva (ov rfl)) rfl tZ_69 rfl) ?_
  refine R_nil ?_
  refine T_keep (kc 0 rfl <| kc 3 rfl <| kn) rfl ?_
  refine T_reg ?_
  refine R_q _ rfl (v_move (ov rfl)) ?_
  refine R_q _ rfl (v_fieldR (ov rfl) tF69_0) ?_
  refine R_q _ rfl (v_loadS_r (ov rfl) tS3 rfl) ?_
  refine R_q _ rfl (v_fieldR (ov rfl) tF69_1) ?_
  refine R_q _ rfl (v_loadS_r (ov rfl) tS3 rfl) ?_
  refine R_q _ rfl (v_fieldR (ov rfl) tF69_2) ?_
  refine R_q _ rfl (v_loadS_r (ov rfl) tS3 rfl) ?_
  refine R_q (.sl 3 (List.map R3 ([x.At, x.N, x.Mark] : List Int))) rfl (v_lit tL33 (.cons (cvs (ov rfl) (cell1_b rfl)) rfl (.cons (.b rfl) .nil) <| .cons (cvs (ov rfl) (cell1_b rfl)) rfl (.cons (.b rfl) .nil) <| .cons (cvs (ov rfl) (cell1_b rfl)) rfl (.cons (.b rfl) .nil) <| .nil) rfl rfl) ?_
  obtain ⟨y, h_y, h⟩ := bnd h
  refine R_w _ _ rfl (w_callG [0, 1] (ok_ref0_Ink_Ints_w h_y) (.cons (ov rfl) (.ptr _ _ _ rfl) <| .cons (ov rfl) (.dat rfl) <| .nil) (.cons rfl (ro1 (by exact tZ_63.symm) (rlc (.own _ rfl) <| rln)) <| .cons rfl (roM D5) <| .nil) rfl (.lent 0 (.inl rfl) rfl (ro1 (by exact tZ_63.symm) (rlc (.own _ (.inl rfl)) <| rln)) <| .lent 1 (.inl rfl) rfl (roM D5) <| .nil) rfl rfl (rTup (rld rfl))) ?_
  refine R_nil ?_
  obtain rfl := rt (v := y) h
  exact retgn [some 0, some 1] rfl (.nil) (.cons rfl (ro1 (by exact tZ_63.symm) (rlc (.own _ rfl) <| rln)) <| .cons rfl (roM D5) <| .nil) rfl rfl (rTup (rln))

theorem ok_ref0_Ink_Series_w {k : ref0_Ink} {s : api_Series} {r : ref0_Ink} (h : ref0_Ink_Series k s = some r) :
    GSpec Tryd.prog gl0 37 [.ptr 0 1 0 0, .agg [.int .i64 s.Den, .sl 69 (List.map R69 s.Samples)]] [some ⟨63, [[.own 1 k.out.length]]⟩, some ⟨5, List.map R5 k.out⟩] (.tuple []) [some ⟨63, [[.own 1 r.out.length]]⟩, some ⟨5, List.map R5 r.out⟩] := by
  unfold ref0_Ink_Series at h
  replace h := bnd0 h
  refine gspec_of (by kernel_rfl) Tryd.func37 rfl rfl ?_
  intro w0 A W φ0
  refine T_seq (T_reg ?_)
  refine R_q _ rfl (v_boxD (cva (ov rfl)) rfl tZ_24 rfl) ?_
  refine R_nil ?_
  refine T_keep (kc 0 rfl <| kc 3 rfl <| kn) rfl ?_
  refine T_seq (T_reg ?_)
  refine R_q _ rfl (v_move (ov rfl)) ?_
  refine R_q _ rfl (v_fieldR (ov rfl) tF24_0) ?_
  refine R_q _ rfl (v_loadS_r (ov rfl) tS3 rfl) ?_
  obtain ⟨y, h_y, h⟩ := bnd h
  refine R_w _ _ rfl (w_callG [0, 1] (ok_ref0_Ink_Int_w h_y) (.cons (ov rfl) (.ptr _ _ _ rfl) <| .cons (ov rfl) (.dat rfl) <| .nil) (.cons rfl (ro1 (by exact tZ_63.symm) (rlc (.own _ rfl) <| rln)) <| .cons rfl (roM D5) <| .nil) rfl (.lent 0 (.inl rfl) rfl (ro1 (by exact tZ_63.symm) (rlc (.own _ (.inl rfl)) <| rln)) <| .lent 1 (.inl rfl) rfl (roM D5) <| .nil) rfl rfl (rTup (rld rfl))) ?_
  refine R_nil ?_
  refine T_keep (kc 0 rfl <| kc 3 rfl <| kn) rfl ?_
  refine T_seq (T_reg ?_)
  refine R_q _ rfl (v_move (ov rfl)) ?_
  refine R_q _ rfl (v_fieldR (ov rfl) tF24_1) ?_
  refine R_q _ rfl (v_loadS_r (ov rfl) tS22 rfl) ?_
  refine R_q _ rfl (v_len (slv_sl (ov rfl) tZ_69) tL22 (len_map _ _)) ?_
  obtain ⟨y2, h_y2, h⟩ := bnd h
  refine R_w _ _ rfl (w_callG [0, 1] (ok_ref0_Ink_Int_w h_y2) (.cons (ov rfl) (.ptr _ _ _ rfl) <| .cons (ov rfl) (.dat rfl) <| .nil) (.cons rfl (ro1 (by exact tZ_63.symm) (rlc (.own _ rfl) <| rln)) <| .cons rfl (roM D5) <| .nil) rfl (.lent 0 (.inl rfl) rfl (ro1 (by exact tZ_63.symm) (rlc (.own _ (.inl rfl)) <| rln)) <| .lent 1 (.inl rfl) rfl (roM D5) <| .nil) rfl rfl (rTup (rld rfl))) ?_
  refine R_nil ?_
  refine T_keep (kc 0 rfl <| kc 3 rfl <| kn) rfl ?_
  refine T_seq (T_reg ?_)
  refine R_q _ rfl (v_assign (ov rfl)) ?_
  refine R_nil ?_
  refine T_block ?_
  obtain ⟨r1, hl1, ho1⟩ := bndL h
  refine T_loopG _ (t2 fun out i => ⟨[(0, .ptr 0 1 0 0), (3, .rp [.int .i64 s.Den, .sl 69 (List.map R69 s.Samples)] 0), (4, .int .i64 i)], [some ⟨63, [[.own 1 out.length]]⟩, some ⟨5, List.map R5 out⟩]⟩) _ hl1 (Ent.sel [some 0, some 1] (sr 0 rfl (.ptr _ _ _ rfl) <| sd 3 rfl rfl <| sd 4 rfl rfl <| sn) (.cons rfl (ro1 (by exact tZ_63.symm) (rlc (.own _ rfl) <| rln)) <| .cons rfl (roM D5) <| .nil) rfl rfl) (fun n1 s1 h => ?_)
  obtain ⟨out, i⟩ := s1
  replace h := t2i h
  refine t2T ?_
  unfold ref0_Ink_Series_L1 at h
  refine T_seq ?_
  refine T_seq (T_reg ?_)
  refine R_q _ rfl (v_move (ov rfl)) ?_
  refine R_q _ rfl (v_fieldR (ov rfl) tF24_1) ?_
  refine R_q _ rfl (v_loadS_r (ov rfl) tS22 rfl) ?_
  refine R_q _ rfl (v_len (slv_sl (ov rfl) tZ_69) tL22 (len_map _ _)) ?_
  refine R_q _ rfl (v_lss (ov rfl) (ov rfl)) ?_
  refine R_nil ?_
  refine T_keep (kc 0 rfl <| kc 3 rfl <| kc 4 rfl <| kc 18 rfl <| kn) rfl ?_
  refine T_if h rfl (fun b18 h => ?_) (fun b18 h => ?_)
  · skip
    refine T_skip ?_
    refine T_seq ?_
    refine T_block ?_
    refine T_keep (kc 0 rfl <| kc 3 rfl <| kc 4 rfl <| kn) rfl ?_
    refine T_reg ?_
    refine R_q _ rfl (v_move (ov rfl)) ?_
    refine R_q _ rfl (v_fieldR (ov rfl) tF24_1) ?_
    refine R_q _ rfl (v_loadS_r (ov rfl) tS22 rfl) ?_
    refine R_q _ rfl (v_move (ov rfl)) ?_
    obtain ⟨x, h_x, h⟩ := bnd h
    refine R_q _ rfl (v_ixSG (ov rfl) (ov rfl) tL22 h_x) ?_
    refine R_q _ rfl (v_loadA_r (ov rfl) tA69 rfl rfl) ?_
    obtain ⟨y3, h_y3, h⟩ := bnd h
    refine R_w _ _ rfl (w_callG [0, 1] (ok_ref0_Ink_Sample_w h_y3) (.cons (ov rfl) (.ptr _ _ _ rfl) <| .cons (ov rfl) (rAgg (rld rfl)) <| .nil) (.cons rfl (ro1 (by exact tZ_63.symm) (rlc (.own _ rfl) <| rln)) <| .cons rfl (roM D5) <| .nil) rfl (.lent 0 (.inl rfl) rfl (ro1 (by exact tZ_63.symm) (rlc (.own _ (.inl rfl)) <| rln)) <| .lent 1 (.inl rfl) rfl (roM D5) <| .nil) rfl rfl (rTup (rld rfl))) ?_
    refine R_nil ?_
    refine T_keep (kc 0 rfl <| kc 3 rfl <| kc 4 rfl <| kn) rfl ?_
    refine T_reg ?_
    refine R_q _ rfl (v_move (ov rfl)) ?_
    refine R_q _ rfl (v_add (ov rfl) (ov rfl) rfl) ?_
    refine R_q _ rfl (v_assign (ov rfl)) ?_
    refine R_nil ?_
    exact ⟨(y3.out, (i64 (i + 1))), h, Ent.sel [some 0, some 1] (sr 0 rfl (.ptr _ _ _ rfl) <| sd 3 rfl rfl <| sd 4 rfl rfl <| sn) (.cons rfl (ro1 (by exact tZ_63.symm) (rlc (.own _ rfl) <| rln)) <| .cons rfl (roM D5) <| .nil) rfl rfl⟩
  · skip
    refine T_exit ?_
    rw [lx h] at ho1
    replace h := ho1
    obtain rfl := rt (v := (ref0_Ink.mk out)) h
    exact retgn [some 0, some 1] rfl (.nil) (.cons rfl (ro1 (by exact tZ_63.symm) (rlc (.own _ rfl) <| rln)) <| .cons rfl (roM D5) <| .nil) rfl rfl (rTup (rln))

theorem ok_ref0_Ink_Errno_w {k : ref0_Ink} {e : Int} {r : ref0_Ink} (h : ref0_Ink_Errno k e = some r) :
    GSpec Tryd.prog gl0 38 [.ptr 0 1 0 0, .int .i64 e] [some ⟨63, [[.own 1 k.out.length]]⟩, some ⟨5, List.map R5 k.out⟩] (.tuple []) [some ⟨63, [[.own 1 r.out.length]]⟩, some ⟨5, List.map R5 r.out⟩] := by
  unfold ref0_Ink_Errno at h
  replace h := bnd0 h
  refine gspec_of (by kernel_rfl) Tryd.func38 rfl rfl ?_
  intro w0 A W φ0
  refine T_reg ?_
  refine R_q _ rfl (v_move (ov rfl)) ?_
  refine R_q _ rfl (v_move (ov rfl)) ?_
  obtain ⟨y, h_y, h⟩ := bnd h
  refine R_w _ _ rfl (w_callG [0, 1] (ok_ref0_Ink_Int_w h_y) (.cons (ov rfl) (.ptr _ _ _ rfl) <| .cons (ov rfl) (.dat rfl) <| .nil) (.cons rfl (ro1 (by exact tZ_63.symm) (rlc (.own _ rfl) <| rln)) <| .cons rfl (roM D5) <| .nil) rfl (.lent 0 (.inl rfl) rfl (ro1 (by exact tZ_63.symm) (rlc (.own _ (.inl rfl)) <| rln)) <| .lent 1 (.inl rfl) rfl (roM D5) <| .nil) rfl rfl (rTup (rld rfl))) ?_
  refine R_nil ?_
  obtain rfl := rt (v := y) h
  exact retgn [some 0, some 1] rfl (.nil) (.cons rfl (ro1 (by exact tZ_63.symm) (rlc (.own _ rfl) <| rln)) <| .cons rfl (roM D5) <| .nil) rfl rfl (rTup (rln))

theorem ok_ref0_Ink_Told_w {k : ref0_Ink} {r : Str} (h : ref0_Ink_Told k = some r) :
    GSpec Tryd.prog gl0 39 [.ptr 0 1 0 0] [some ⟨63, [[.own 1 k.out.length]]⟩, some ⟨5, List.map R5 k.out⟩] (.str r) [some ⟨63, [[.own 1 k.out.length]]⟩, some ⟨5, List.map R5 k.out⟩] := by
  unfold ref0_Ink_Told at h
  replace h := bnd0 h
  refine gspec_of (by kernel_rfl) Tryd.func39 rfl rfl ?_
  intro w0 A W φ0
  refine T_seq (T_reg ?_)
  refine R_q _ rfl (v_assign (ov rfl)) ?_
  refine R_nil ?_
  refine T_seq (T_reg ?_)
  refine R_q _ rfl (v_move (ov rfl)) ?_
  refine R_q _ rfl (v_nilCheckP (ov rfl) rfl rfl) ?_
  refine R_q _ rfl (v_fieldP (ov rfl) rfl rfl tF63_0) ?_
  refine R_q _ rfl (v_loadS (ov rfl) rfl rfl rfl tS61 rfl) ?_
  refine R_q _ rfl (v_strOf (f := R5) (slv_own (o := ⟨5, List.map R5 k.out⟩) (ov rfl) rfl (List.length_map ..) tZ_5) (fun _ => rfl) tL61 tStr9 tU85) ?_
  refine R_q _ rfl (v_assign (ov rfl)) ?_
  refine R_nil ?_
  obtain rfl := rt (v := (ofBytes k.out)) h
  refine T_ret ?_
  exact retg [some 0, some 1] rfl (.cons (.tmp rfl) <| .nil) (.cons rfl (ro1 (by exact tZ_63.symm) (rlc (.own _ rfl) <| rln)) <| .cons rfl (roM D5) <| .nil) rfl rfl (.dat rfl)

theorem ok_law5_told {s : api_Series} {e : Int} {r : Str} (h : law5_told s e = some r) :
    CSpec Tryd.prog gl0 10 [.agg [.int .i64 s.Den, .sl 69 (List.map R69 s.Samples)], .int .i64 e] (.str r) := by
  unfold law5_told at h
  replace h := bnd0 h
  refine spec_of (by kernel_rfl) Tryd.func10 rfl rfl ?_
  intro w0 A
  refine T_seq (T_reg ?_)
  refine R_q _ rfl (v_boxD (cva (ov rfl)) rfl tZ_24 rfl) ?_
  refine R_q _ rfl (v_assign (ov rfl)) ?_
  refine R_nil ?_
  refine T_keep (kc 1 rfl <| kc 2 rfl <| kn) rfl ?_
  refine T_seq (T_reg ?_)
  refine R_q _ rfl (v_build (ys := [_]) tPL63 tHA63 tZ63 (.nil) rfl) ?_
  refine R_w _ _ rfl (w_box 0 rfl (ov rfl) tA63 rfl) ?_
  refine R_q _ rfl (v_assign (ov rfl)) ?_
  refine R_nil ?_
  refine T_keep (kc 1 rfl <| kc 2 rfl <| kc 5 rfl <| kn) rfl ?_
  refine T_seq (T_reg ?_)
  refine R_q _ rfl (v_move (ov rfl)) ?_
  refine R_q _ rfl (v_loadA_r (ov rfl) tA24 rfl rfl) ?_
  obtain ⟨y, h_y, h⟩ := bnd h
  refine R_ent (Ent.sel [some 0, none] (sd 1 rfl rfl <| sd 2 rfl rfl <| sr 5 rfl (.ptr (r' := 0) _ _ _ rfl) <| sr 8 rfl (.ptr (r' := 0) _ _ _ rfl) <| sr 9 rfl (rAgg (rld rfl)) <| sn) (.cons rfl (ro1 (by exact tZ_63.symm) (rlc (.row (r' := 1) rfl) <| rln)) <| .row 5 <| .nil) rfl rfl) ?_
  refine R_w _ _ rfl (w_callG [0, 1] (ok_ref0_Ink_Series_w h_y) (.cons (ov rfl) (.ptr _ _ _ rfl) <| .cons (ov rfl) (rAgg (rld rfl)) <| .nil) (.cons rfl (ro1 (by exact tZ_63.symm) (rlc (.own _ rfl) <| rln)) <| .cons rfl (roM D5) <| .nil) rfl (.lent 0 (.inl rfl) rfl (ro1 (by exact tZ_63.symm) (rlc (.own _ (.inl rfl)) <| rln)) <| .lent 1 (.inl rfl) rfl (roM D5) <| .nil) rfl rfl (rTup (rld rfl))) ?_
  refine R_nil ?_
  refine T_keep (kc 1 rfl <| kc 5 rfl <| kn) rfl ?_
  refine T_seq (T_reg ?_)
  refine R_q _ rfl (v_move (ov rfl)) ?_
  refine R_q _ rfl (v_move (ov rfl)) ?_
  obtain ⟨y2, h_y2, h⟩ := bnd h
  refine R_w _ _ rfl (w_callG [0, 1] (ok_ref0_Ink_Errno_w h_y2) (.cons (ov rfl) (.ptr _ _ _ rfl) <| .cons (ov rfl) (.dat rfl) <| .nil) (.cons rfl (ro1 (by exact tZ_63.symm) (rlc (.own _ rfl) <| rln)) <| .cons rfl (roM D5) <| .nil) rfl (.lent 0 (.inl rfl) rfl (ro1 (by exact tZ_63.symm) (rlc (.own _ (.inl rfl)) <| rln)) <| .lent 1 (.inl rfl) rfl (roM D5) <| .nil) rfl rfl (rTup (rld rfl))) ?_
  refine R_nil ?_
  refine T_keep (kc 5 rfl <| kn) rfl ?_
  refine T_seq (T_reg ?_)
  refine R_q _ rfl (v_move (ov rfl)) ?_
  obtain ⟨y3, h_y3, h⟩ := bnd h
  refine R_w _ _ rfl (w_callG [0, 1] (ok_ref0_Ink_Told_w h_y3) (.cons (ov rfl) (.ptr _ _ _ rfl) <| .nil) (.cons rfl (ro1 (by exact tZ_63.symm) (rlc (.own _ rfl) <| rln)) <| .cons rfl (roM D5) <| .nil) rfl (.lent 0 (.inl rfl) rfl (ro1 (by exact tZ_63.symm) (rlc (.own _ (.inl rfl)) <| rln)) <| .lent 1 (.inl rfl) rfl (roM D5) <| .nil) rfl rfl (.dat rfl)) ?_
  refine R_q _ rfl (v_assign (ov rfl)) ?_
  refine R_nil ?_
  obtain rfl := rt (v := y3) h
  refine T_ret (retq ?_ (.one (.tmp rfl (Dat.view (.b rfl)))))
  rfl

theorem ok_ref5_outside {n : Int} {low : Int} {high : Int} {r : Bool} (h : ref5_outside n low high = some r) :
    CSpec Tryd.prog gl0 42 [.int .i64 n, .int .i64 low, .int .i64 high] (.bool r) := by
  unfold ref5_outside at h
  replace h := bnd0 h
  refine spec_of (by kernel_rfl) Tryd.func42 rfl rfl ?_
  intro w0 A
  refine T_seq (T_reg ?_)
  refine R_q _ rfl (v_assign (ov rfl)) ?_
  refine R_nil ?_
  refine T_seq (T_reg ?_)
  refine R_q _ rfl (v_move (ov rfl)) ?_
  refine R_q _ rfl (v_move (ov rfl)) ?_
  refine R_q _ rfl (v_lss (ov rfl) (ov rfl)) ?_
  refine R_q _ rfl (v_move (ov rfl)) ?_
  refine R_q _ rfl (.guarded ((decide (n < low)) == false) rfl rfl rfl rfl fun h => v_move (ov rfl)) ?_
  refine R_q _ rfl (.guarded ((decide (n < low)) == false) rfl rfl rfl rfl fun h => v_move (ov rfl)) ?_
  refine R_q _ rfl (.guarded ((decide (n < low)) == false) rfl rfl rfl rfl fun h => v_gtr (ow rfl h) (ow rfl h)) ?_
  refine R_q _ rfl (v_or (ov rfl) (fun hp => ow rfl (gF hp))) ?_
  refine R_q _ rfl (v_assign (ov rfl)) ?_
  refine R_nil ?_
  obtain rfl := rt (v := ((decide (n < low)) || (decide (high < n)))) h
  refine T_ret (retq ?_ (.one (.tmp rfl (Dat.view (.b rfl)))))
  rfl

theorem ok_ref5_numbered {mark : Int} {r : Bool} (h : ref5_numbered mark = some r) :
    CSpec Tryd.prog gl0 74 [.int .i64 mark] (.bool r) := by
  unfold ref5_numbered at h
  replace h := bnd0 h
  refine spec_of (by kernel_rfl) Tryd.func74 rfl rfl ?_
  intro w0 A
  refine T_seq (T_reg ?_)
  refine R_q _ rfl (v_assign (ov rfl)) ?_
  refine R_nil ?_
  refine T_seq (T_reg ?_)
  refine R_q _ rfl (v_move (ov rfl)) ?_
  refine R_q _ rfl (v_geq (ov rfl) (ov rfl)) ?_
  refine R_q _ rfl (v_assign (ov rfl)) ?_
  refine R_nil ?_
  obtain rfl := rt (v := (decide (2 ≤ mark))) h
  refine T_ret (retq ?_ (.one (.tmp rfl (Dat.view (.b rfl)))))
  rfl

theorem ok_ref5_sampleFault {s : api_Sample} {r : Int} (h : ref5_sampleFault s = some r) :
    CSpec Tryd.prog gl0 82 [.agg [.int .i64 s.At, .int .i64 s.N, .int .i64 s.Mark]] (.int .i64 r) := by
  unfold ref5_sampleFault at h
  replace h := bnd0 h
  refine spec_of (by kernel_rfl) Tryd.func82 rfl rfl ?_
  intro w0 A
  refine T_seq (T_reg ?_)
  refine R_q _ rfl (v_boxD (cva (ov rfl)) rfl tZ_69 rfl) ?_
  refine R_q _ rfl (v_assign (ov rfl)) ?_
  refine R_nil ?_
  refine T_seq ?_
  refine T_keep (kc 1 rfl <| kn) rfl ?_
  refine T_seq (T_reg ?_)
  refine R_q _ rfl (v_fieldR (ov rfl) tF69_0) ?_
  refine R_q _ rfl (v_loadS_r (ov rfl) tS3 rfl) ?_
  obtain ⟨y, h_y, h⟩ := bnd h
  refine R_q _ rfl (v_call (ok_ref5_outside h_y) (.cons (ov rfl) (.b rfl) <| .cons (ov rfl) (.b rfl) <| .cons (ov rfl) (.b rfl) <| .nil)) ?_
  refine R_q _ rfl (v_move (ov rfl)) ?_
  refine R_q _ rfl (.guarded (y == false) rfl rfl rfl rfl fun h => v_fieldR (ov rfl) tF69_1) ?_
  refine R_q _ rfl (.guarded (y == false) rfl rfl rfl rfl fun h => v_loadS_r (ow rfl h) tS3 rfl) ?_
  obtain ⟨y2, h_y2, h⟩ := bnd h
  refine R_q _ rfl (.guarded (y == false) rfl rfl rfl rfl fun h => v_call (ok_ref5_outside (gdT h_y2 h)) (.cons (ow rfl h) (.b rfl) <| .cons (ov rfl) (.b rfl) <| .cons (ov rfl) (.b rfl) <| .nil)) ?_
  refine R_q _ rfl (v_or (ov rfl) (fun hp => ow rfl (gF hp))) ?_
  refine R_q _ rfl (v_move (ov rfl)) ?_
  refine R_q _ rfl (.guarded ((y || y2) == false) rfl rfl rfl rfl fun h => v_fieldR (ov rfl) tF69_2) ?_
  refine R_q _ rfl (.guarded ((y || y2) == false) rfl rfl rfl rfl fun h => v_loadS_r (ow rfl h) tS3 rfl) ?_
  obtain ⟨y3, h_y3, h⟩ := bnd h
  refine R_q _ rfl (.guarded ((y || y2) == false) rfl rfl rfl rfl fun h => v_call (ok_ref5_outside (gdT h_y3 h)) (.cons (ow rfl h) (.b rfl) <| .cons (ov rfl) (.b rfl) <| .cons (ov rfl) (.b rfl) <| .nil)) ?_
  refine R_q _ rfl (v_or (ov rfl) (fun hp => ow rfl (gF hp))) ?_
  refine R_nil ?_
  refine T_keep (kc 1 rfl <| kc 15 rfl <| kn) rfl ?_
  refine T_if h rfl (fun b15 h => ?_) (fun b15 h => ?_)
  · skip
    refine T_keep (kn) rfl ?_
    refine T_seq (T_reg ?_)
    refine R_q _ rfl (v_assign (ov rfl)) ?_
    refine R_nil ?_
    obtain rfl := rt (v := 9) h
    refine T_ret (retq ?_ (.one (.tmp rfl (Dat.view (.b rfl)))))
    rfl
  · skip
    refine T_skip ?_
    refine T_seq ?_
    refine T_keep (kc 1 rfl <| kn) rfl ?_
    refine T_seq (T_reg ?_)
    refine R_q _ rfl (v_fieldR (ov rfl) tF69_1) ?_
    refine R_q _ rfl (v_loadS_r (ov rfl) tS3 rfl) ?_
    refine R_q _ rfl (v_neq (ov rfl) (ov rfl)) ?_
    refine R_q _ rfl (v_move (ov rfl)) ?_
    refine R_q _ rfl (.guarded ((!decide (s.N = 0)) == true) rfl rfl rfl rfl fun h => v_fieldR (ov rfl) tF69_2) ?_
    refine R_q _ rfl (.guarded ((!decide (s.N = 0)) == true) rfl rfl rfl rfl fun h => v_loadS_r (ow rfl h) tS3 rfl) ?_
    obtain ⟨y4, h_y4, h⟩ := bnd h
    refine R_q _ rfl (.guarded ((!decide (s.N = 0)) == true) rfl rfl rfl rfl fun h => v_call (ok_ref5_numbered (gdT h_y4 h)) (.cons (ow rfl h) (.b rfl) <| .nil)) ?_
    refine R_q _ rfl (.guarded ((!decide (s.N = 0)) == true) rfl rfl rfl rfl fun h => v_not (ow rfl h)) ?_
    refine R_q _ rfl (v_and (ov rfl) (fun hp => ow rfl (gT hp))) ?_
    refine R_nil ?_
    refine T_keep (kc 24 rfl <| kn) rfl ?_
    refine T_if h rfl (fun b24 h => ?_) (fun b24 h => ?_)
    · skip
      refine T_keep (kn) rfl ?_
      refine T_seq (T_reg ?_)
      refine R_q _ rfl (v_assign (ov rfl)) ?_
      refine R_nil ?_
      obtain rfl := rt (v := 2) h
      refine T_ret (retq ?_ (.one (.tmp rfl (Dat.view (.b rfl)))))
      rfl
    · skip
      refine T_skip ?_
      refine T_keep (kn) rfl ?_
      refine T_seq (T_reg ?_)
      refine R_q _ rfl (v_assign (ov rfl)) ?_
      refine R_nil ?_
      obtain rfl := rt (v := 0) h
      refine T_ret (retq ?_ (.one (.tmp rfl (Dat.view (.b rfl)))))
      rfl

theorem ok_ref5_fault {s : api_Series} {r : Int × Int} (h : ref5_fault s = some r) :
    CSpec Tryd.prog gl0 69 [.agg [.int .i64 s.Den, .sl 69 (List.map R69 s.Samples)]] (.tuple [.int .i64 r.1, .int .i64 r.2]) := by
  unfold ref5_fault at h
  replace h := bnd0 h
  refine spec_of (by kernel_rfl) Tryd.func69 rfl rfl ?_
  intro w0 A
  refine T_seq (T_reg ?_)
  refine R_q _ rfl (v_boxD (cva (ov rfl)) rfl tZ_24 rfl) ?_
  refine R_q _ rfl (v_assign (ov rfl)) ?_
  refine R_q _ rfl (v_assign (ov rfl)) ?_
  refine R_nil ?_
  refine T_seq ?_
  refine T_keep (kc 1 rfl <| kn) rfl ?_
  refine T_seq (T_reg ?_)
  refine R_q _ rfl (v_fieldR (ov rfl) tF24_0) ?_
  refine R_q _ rfl (v_loadS_r (ov rfl) tS3 rfl) ?_
  obtain ⟨y, h_y, h⟩ := bnd h
  refine R_q _ rfl (v_call (ok_ref5_outside h_y) (.cons (ov rfl) (.b rfl) <| .cons (ov rfl) (.b rfl) <| .cons (ov rfl) (.b rfl) <| .nil)) ?_
  refine R_nil ?_
  refine T_keep (kc 1 rfl <| kc 8 rfl <| kn) rfl ?_
  refine T_if h rfl (fun b8 h => ?_) (fun b8 h => ?_)
  · skip
    refine T_keep (kn) rfl ?_
    refine T_seq (T_reg ?_)
    refine R_q _ rfl (v_assign (ov rfl)) ?_
    refine R_q _ rfl (v_assign (ov rfl)) ?_
    refine R_nil ?_
    obtain rfl := rt (v := ((-1), 9)) h
    refine T_ret (retq ?_ (.two (.tmp rfl (Dat.view (.b rfl))) (.tmp rfl (Dat.view (.b rfl)))))
    rfl
  · skip
    refine T_skip ?_
    refine T_seq ?_
    refine T_keep (kc 1 rfl <| kn) rfl ?_
    refine T_seq (T_reg ?_)
    refine R_q _ rfl (v_fieldR (ov rfl) tF24_1) ?_
    refine R_q _ rfl (v_loadS_r (ov rfl) tS22 rfl) ?_
    refine R_q _ rfl (v_len (slv_sl (ov rfl) tZ_69) tL22 (len_map _ _)) ?_
    refine R_q _ rfl (v_gtr (ov rfl) (ov rfl)) ?_
    refine R_nil ?_
    refine T_keep (kc 1 rfl <| kc 12 rfl <| kn) rfl ?_
    refine T_if h rfl (fun b12 h => ?_) (fun b12 h => ?_)
    · skip
      refine T_keep (kn) rfl ?_
      refine T_seq (T_reg ?_)
      refine R_q _ rfl (v_assign (ov rfl)) ?_
      refine R_q _ rfl (v_assign (ov rfl)) ?_
      refine R_nil ?_
      obtain rfl := rt (v := ((-1), 3)) h
      refine T_ret (retq ?_ (.two (.tmp rfl (Dat.view (.b rfl))) (.tmp rfl (Dat.view (.b rfl)))))
      rfl
    · skip
      refine T_skip ?_
      refine T_joinG (fun j => (.inr j)) (t0 ⟨[], []⟩) h (fun h => ?_) (fun j h => ?_)
      · skip
        refine T_keep (kc 1 rfl <| kn) rfl ?_
        refine T_seq (T_reg ?_)
        refine R_q _ rfl (v_assign (ov rfl)) ?_
        refine R_nil ?_
        refine T_block ?_
        obtain ⟨r1, hl1, ho1⟩ := bndL h
        refine T_loopG _ (t1 fun i => ⟨[(1, .rp [.int .i64 s.Den, .sl 69 (List.map R69 s.Samples)] 0), (4, .int .i64 i)], []⟩) _ hl1 (Ent.sel [] (sd 1 rfl rfl <| sd 4 rfl rfl <| sn) (.nil) rfl rfl) (fun n1 s1 h => ?_)
        obtain ⟨i, rfl⟩ : ∃ x, x = s1 := ⟨_, rfl⟩
        replace h := t1i h
        refine t1T ?_
        unfold ref5_fault_L1 at h
        refine T_seq ?_
        refine T_seq (T_reg ?_)
        refine R_q _ rfl (v_move (ov rfl)) ?_
        refine R_q _ rfl (v_fieldR (ov rfl) tF24_1) ?_
        refine R_q _ rfl (v_loadS_r (ov rfl) tS22 rfl) ?_
        refine R_q _ rfl (v_len (slv_sl (ov rfl) tZ_69) tL22 (len_map _ _)) ?_
        refine R_q _ rfl (v_lss (ov rfl) (ov rfl)) ?_
        refine R_nil ?_
        refine T_keep (kc 1 rfl <| kc 4 rfl <| kc 17 rfl <| kn) rfl ?_
        refine T_if h rfl (fun b17 h => ?_) (fun b17 h => ?_)
        · skip
          refine T_skip ?_
          refine T_seq ?_
          refine T_block ?_
          refine T_seq ?_
          refine T_keep (kc 1 rfl <| kc 4 rfl <| kn) rfl ?_
          refine T_seq (T_reg ?_)
          refine R_q _ rfl (v_fieldR (ov rfl) tF24_1) ?_
          refine R_q _ rfl (v_loadS_r (ov rfl) tS22 rfl) ?_
          refine R_q _ rfl (v_move (ov rfl)) ?_
          obtain ⟨x, h_x, h⟩ := bnd h
          refine R_q _ rfl (v_ixSG (ov rfl) (ov rfl) tL22 h_x) ?_
          refine R_q _ rfl (v_loadA_r (ov rfl) tA69 rfl rfl) ?_
          obtain ⟨y2, h_y2, h⟩ := bnd h
          refine R_q _ rfl (v_call (ok_ref5_sampleFault h_y2) (.cons (ov rfl) (.aggB rfl) <| .nil)) ?_
          refine R_q _ rfl (v_assign (ov rfl)) ?_
          refine R_nil ?_
          refine T_keep (kc 1 rfl <| kc 4 rfl <| kc 5 rfl <| kn) rfl ?_
          refine T_seq (T_reg ?_)
          refine R_q _ rfl (v_move (ov rfl)) ?_
          refine R_q _ rfl (v_neq (ov rfl) (ov rfl)) ?_
          refine R_nil ?_
          refine T_keep (kc 1 rfl <| kc 4 rfl <| kc 5 rfl <| kc 27 rfl <| kn) rfl ?_
          refine T_if h rfl (fun b27 h => ?_) (fun b27 h => ?_)
          · skip
            refine T_keep (kc 4 rfl <| kc 5 rfl <| kn) rfl ?_
            refine T_seq (T_reg ?_)
            refine R_q _ rfl (v_move (ov rfl)) ?_
            refine R_q _ rfl (v_move (ov rfl)) ?_
            refine R_q _ rfl (v_assign (ov rfl)) ?_
            refine R_q _ rfl (v_assign (ov rfl)) ?_
            refine R_nil ?_
            rw [lx h] at ho1
            replace h := ho1
            obtain rfl := rt (v := (i, y2)) h
            refine T_ret (retq ?_ (.two (.tmp rfl (Dat.view (.b rfl))) (.tmp rfl (Dat.view (.b rfl)))))
            rfl
          · skip
            refine T_skip ?_
            refine T_keep (kc 1 rfl <| kc 4 rfl <| kn) rfl ?_
            refine T_seq (T_draw (cw := md0) (by kernel_rfl) ?_)
            refine D_free 0 _ rfl (by kernel_rfl) rfl rfl (fun hp' => v_move (ov rfl)) ?_
            refine D_free 1 _ rfl (by kernel_rfl) rfl rfl (fun hp' => v_gtr (ov rfl) (ov rfl)) ?_
            refine D_free 2 _ rfl (by kernel_rfl) rfl rfl (fun hp' => v_move (ov rfl)) ?_
            refine D_read 3 _ rfl (by kernel_rfl) rfl rfl rfl ExtW.refl (fun hp' hx => .guarded ((decide (0 < i)) == true) rfl rfl rfl rfl fun h => v_fieldR (ov rfl) tF24_1) ?_
            refine D_read 4 _ rfl (by kernel_rfl) rfl rfl rfl ExtW.refl (fun hp' hx => .guarded ((decide (0 < i)) == true) rfl rfl rfl rfl fun h => v_loadS_r (ow rfl h) tS22 rfl) ?_
            refine D_free 5 _ rfl (by kernel_rfl) rfl rfl (fun hp' => .guarded ((decide (0 < i)) == true) rfl rfl rfl rfl fun h => v_move (ov rfl)) ?_
            obtain ⟨x2, h_x2, h⟩ := bnd h
            refine D_read 6 _ rfl (by kernel_rfl) rfl rfl rfl ExtW.refl (fun hp' hx => .guarded ((decide (0 < i)) == true) rfl rfl rfl rfl fun h => v_ixSG (ow rfl h) (ow rfl h) tL22 (gdT h_x2 h)) ?_
            refine D_read 7 _ rfl (by kernel_rfl) rfl rfl rfl ExtW.refl (fun hp' hx => .guarded ((decide (0 < i)) == true) rfl rfl rfl rfl fun h => v_fieldR (ow rfl h) tF69_0) ?_
            refine D_read 8 _ rfl (by kernel_rfl) rfl rfl rfl ExtW.refl (fun hp' hx => .guarded ((decide (0 < i)) == true) rfl rfl rfl rfl fun h => v_loadS_r (ow rfl h) tS3 rfl) ?_
            refine D_read 9 _ rfl (by kernel_rfl) rfl rfl rfl ExtW.refl (fun hp' hx => .guarded ((decide (0 < i)) == true) rfl rfl rfl rfl fun h => v_fieldR (ov rfl) tF24_1) ?_
            refine D_read 10 _ rfl (by kernel_rfl) rfl rfl rfl ExtW.refl (fun hp' hx => .guarded ((decide (0 < i)) == true) rfl rfl rfl rfl fun h => v_loadS_r (ow rfl h) tS22 rfl) ?_
            refine D_free 11 _ rfl (by kernel_rfl) rfl rfl (fun hp' => .guarded ((decide (0 < i)) == true) rfl rfl rfl rfl fun h => v_move (ov rfl)) ?_
            refine D_free 12 _ rfl (by kernel_rfl) rfl rfl (fun hp' => .guarded ((decide (0 < i)) == true) rfl rfl rfl rfl fun h => v_sub (ow rfl h) (ov rfl) rfl) ?_
            obtain ⟨x3, h_x3, h⟩ := bnd h
            refine D_read 13 _ rfl (by kernel_rfl) rfl rfl rfl ExtW.refl (fun hp' hx => .guarded ((decide (0 < i)) == true) rfl rfl rfl rfl fun h => v_ixSG (ow rfl h) (ow rfl h) tL22 (gdT h_x3 h)) ?_
            refine D_read 14 _ rfl (by kernel_rfl) rfl rfl rfl ExtW.refl (fun hp' hx => .guarded ((decide (0 < i)) == true) rfl rfl rfl rfl fun h => v_fieldR (ow rfl h) tF69_0) ?_
            refine D_read 15 _ rfl (by kernel_rfl) rfl rfl rfl ExtW.refl (fun hp' hx => .guarded ((decide (0 < i)) == true) rfl rfl rfl rfl fun h => v_loadS_r (ow rfl h) tS3 rfl) ?_
            refine D_free 16 _ rfl (by kernel_rfl) rfl rfl (fun hp' => .guarded ((decide (0 < i)) == true) rfl rfl rfl rfl fun h => v_leq (ow rfl h) (ow rfl h)) ?_
            refine D_free 17 _ rfl (by kernel_rfl) rfl rfl (fun hp' => v_and (ov rfl) (fun hp => ow rfl (gT hp))) ?_
            refine D_done (by kernel_rfl) ?_
            refine T_keep (kc 1 rfl <| kc 4 rfl <| kc 47 rfl <| kn) rfl ?_
            refine T_if h rfl (fun b47 h => ?_) (fun b47 h => ?_)
            · skip
              refine T_keep (kc 4 rfl <| kn) rfl ?_
              refine T_seq (T_reg ?_)
              refine R_q _ rfl (v_move (ov rfl)) ?_
              refine R_q _ rfl (v_assign (ov rfl)) ?_
              refine R_q _ rfl (v_assign (ov rfl)) ?_
              refine R_nil ?_
              rw [lx h] at ho1
              replace h := ho1
              obtain rfl := rt (v := (i, 10)) h
              refine T_ret (retq ?_ (.two (.tmp rfl (Dat.view (.b rfl))) (.tmp rfl (Dat.view (.b rfl)))))
              rfl
            · skip
              refine T_skip ?_
              refine T_keep (kc 1 rfl <| kc 4 rfl <| kn) rfl ?_
              refine T_reg ?_
              refine R_q _ rfl (v_move (ov rfl)) ?_
              refine R_q _ rfl (v_add (ov rfl) (ov rfl) rfl) ?_
              refine R_q _ rfl (v_assign (ov rfl)) ?_
              refine R_nil ?_
              exact ⟨(i64 (i + 1)), h, Ent.sel [] (sd 1 rfl rfl <| sd 4 rfl rfl <| sn) (.nil) rfl rfl⟩
        · skip
          refine T_exit ?_
          rw [lx h] at ho1
          replace h := ho1
          exact ⟨(), h, Ent.sel [] (sn) (.nil) rfl rfl⟩
      · skip
        replace h := elr h
        cases j
        replace h := t0i h
        refine t0T ?_
        refine T_seq (T_reg ?_)
        refine R_q _ rfl (v_assign (ov rfl)) ?_
        refine R_q _ rfl (v_assign (ov rfl)) ?_
        refine R_nil ?_
        obtain rfl := rt (v := ((-1), 0)) h
        refine T_ret (retq ?_ (.two (.tmp rfl (Dat.view (.b rfl))) (.tmp rfl (Dat.view (.b rfl)))))
        rfl

theorem ok_ref5_Check {s : api_Series} {r : Int} (h : ref5_Check s = some r) :
    CSpec Tryd.prog gl0 33 [.agg [.int .i64 s.Den, .sl 69 (List.map R69 s.Samples)]] (.int .i64 r) := by
  unfold ref5_Check at h
  replace h := bnd0 h
  refine spec_of (by kernel_rfl) Tryd.func33 rfl rfl ?_
  intro w0 A
  refine T_seq (T_reg ?_)
  refine R_q _ rfl (v_boxD (cva (ov rfl)) rfl tZ_24 rfl) ?_
  refine R_q _ rfl (v_assign (ov rfl)) ?_
  refine R_nil ?_
  refine T_keep (kc 1 rfl <| kn) rfl ?_
  refine T_seq (T_reg ?_)
  refine R_q _ rfl (v_loadA_r (ov rfl) tA24 rfl rfl) ?_
  obtain ⟨y, h_y, h⟩ := bnd h
  refine R_q _ rfl (v_call (ok_ref5_fault h_y) (.cons (ov rfl) (.aggB rfl) <| .nil)) ?_
  refine R_q _ rfl (v_move (ov rfl)) ?_
  refine R_q _ rfl (v_extract (ov rfl) rfl) ?_
  refine R_q _ rfl (v_extract (ov rfl) rfl) ?_
  refine R_q _ rfl (v_assign (ov rfl)) ?_
  refine R_q _ rfl (v_assign (ov rfl)) ?_
  refine R_nil ?_
  refine T_keep (kc 4 rfl <| kn) rfl ?_
  refine T_seq (T_reg ?_)
  refine R_q _ rfl (v_move (ov rfl)) ?_
  refine R_q _ rfl (v_assign (ov rfl)) ?_
  refine R_nil ?_
  obtain rfl := rt (v := y.2) h
  refine T_ret (retq ?_ (.one (.tmp rfl (Dat.view (.b rfl)))))
  rfl

theorem ok_ref5_solid {mark : Int} {r : Bool} (h : ref5_solid mark = some r) :
    CSpec Tryd.prog gl0 55 [.int .i64 mark] (.bool r) := by
  unfold ref5_solid at h
  replace h := bnd0 h
  refine spec_of (by kernel_rfl) Tryd.func55 rfl rfl ?_
  intro w0 A
  refine T_seq (T_reg ?_)
  refine R_q _ rfl (v_assign (ov rfl)) ?_
  refine R_nil ?_
  refine T_seq (T_reg ?_)
  refine R_q _ rfl (v_move (ov rfl)) ?_
  refine R_q _ rfl (v_geq (ov rfl) (ov rfl)) ?_
  refine R_q _ rfl (v_assign (ov rfl)) ?_
  refine R_nil ?_
  obtain rfl := rt (v := (decide (3 ≤ mark))) h
  refine T_ret (retq ?_ (.one (.tmp rfl (Dat.view (.b rfl)))))
  rfl

theorem ok_ref5_Solids {s : api_Series} {r : (List Int)} (h : ref5_Solids s = some r) :
    CSpec Tryd.prog gl0 51 [.agg [.int .i64 s.Den, .sl 69 (List.map R69 s.Samples)]] (.sl 3 (List.map R3 r)) := by
  unfold ref5_Solids at h
  replace h := bnd0 h
  refine spec_of (by kernel_rfl) Tryd.func51 rfl rfl ?_
  intro w0 A
  refine T_seq (T_reg ?_)
  refine R_q _ rfl (v_boxD (cva (ov rfl)) rfl tZ_24 rfl) ?_
  refine R_q _ rfl (v_assign (ov rfl)) ?_
  refine R_nil ?_
  refine T_keep (kc 1 rfl <| kn) rfl ?_
  refine T_seq (T_reg ?_)
  refine R_q _ rfl (v_assign (ov rfl)) ?_
  refine R_nil ?_
  refine T_joinG id (t1 fun out => ⟨[(3, .own 0 out.length)], [some ⟨3, List.map R3 out⟩]⟩) h (fun h => ?_) (fun j h => ?_)
  · skip
    refine T_seq (T_reg ?_)
    refine R_q _ rfl (v_assign (ov rfl)) ?_
    refine R_nil ?_
    refine T_block ?_
    obtain ⟨r1, hl1, ho1⟩ := bndL h
    refine T_loopG _ (t2 fun out2 i => ⟨[(1, .rp [.int .i64 s.Den, .sl 69 (List.map R69 s.Samples)] 0), (3, .own 0 out2.length), (4, .int .i64 i)], [some ⟨3, List.map R3 out2⟩]⟩) _ hl1 (Ent.sel [none] (sd 1 rfl rfl <| sr 3 rfl (.row rfl) <| sd 4 rfl rfl <| sn) (.row 3 <| .nil) rfl rfl) (fun n1 s1 h => ?_)
    obtain ⟨out2, i⟩ := s1
    replace h := t2i h
    refine t2T ?_
    unfold ref5_Solids_L1 at h
    refine T_seq ?_
    refine T_seq (T_reg ?_)
    refine R_q _ rfl (v_move (ov rfl)) ?_
    refine R_q _ rfl (v_fieldR (ov rfl) tF24_1) ?_
    refine R_q _ rfl (v_loadS_r (ov rfl) tS22 rfl) ?_
    refine R_q _ rfl (v_len (slv_sl (ov rfl) tZ_69) tL22 (len_map _ _)) ?_
    refine R_q _ rfl (v_lss (ov rfl) (ov rfl)) ?_
    refine R_nil ?_
    refine T_keep (kc 1 rfl <| kc 3 rfl <| kc 4 rfl <| kc 9 rfl <| kn) rfl ?_
    refine T_if h rfl (fun b9 h => ?_) (fun b9 h => ?_)
    · skip
      refine T_skip ?_
      refine T_seq ?_
      refine T_block ?_
      refine T_keep (kc 1 rfl <| kc 3 rfl <| kc 4 rfl <| kn) rfl ?_
      refine T_seq (T_reg ?_)
      refine R_q _ rfl (v_fieldR (ov rfl) tF24_1) ?_
      refine R_q _ rfl (v_loadS_r (ov rfl) tS22 rfl) ?_
      refine R_q _ rfl (v_move (ov rfl)) ?_
      obtain ⟨x, h_x, h⟩ := bnd h
      refine R_q _ rfl (v_ixSG (ov rfl) (ov rfl) tL22 h_x) ?_
      refine R_q _ rfl (v_fieldR (ov rfl) tF69_2) ?_
      refine R_q _ rfl (v_loadS_r (ov rfl) tS3 rfl) ?_
      obtain ⟨y, h_y, h⟩ := bnd h
      refine R_q _ rfl (v_call (ok_ref5_solid h_y) (.cons (ov rfl) (.b rfl) <| .nil)) ?_
      refine R_nil ?_
      refine T_keep (kc 1 rfl <| kc 3 rfl <| kc 4 rfl <| kc 18 rfl <| kn) rfl ?_
      refine T_if h rfl (fun b18 h => ?_) (fun b18 h => ?_)
      · skip
        refine T_keep (kc 1 rfl <| kc 3 rfl <| kc 4 rfl <| kn) rfl ?_
        refine T_reg ?_
        refine R_q _ rfl (v_move (ov rfl)) ?_
        refine R_q _ rfl (v_move (ov rfl)) ?_
        refine R_q (.sl 3 (List.map R3 ([i] : List Int))) rfl (v_lit tL33 (.cons (cvs (ov rfl) (cell1_b rfl)) rfl (.cons (.b rfl) .nil) <| .nil) rfl rfl) ?_
        obtain ⟨l, h_l, h⟩ := bnd h
        refine R_w _ _ rfl (w_appendG (ov rfl) (slv_sl (ov rfl) tZ_3) tL33 rfl rfl rfl (fun _ => cell1_all rfl) rfl h_l) ?_
        refine R_q _ rfl (v_assign (ov rfl)) ?_
        refine R_nil ?_
        refine T_keep (kc 1 rfl <| kc 3 rfl <| kc 4 rfl <| kn) rfl ?_
        refine T_reg ?_
        refine R_q _ rfl (v_move (ov rfl)) ?_
        refine R_q _ rfl (v_add (ov rfl) (ov rfl) rfl) ?_
        refine R_q _ rfl (v_assign (ov rfl)) ?_
        refine R_nil ?_
        exact ⟨(l, (i64 (i + 1))), h, Ent.sel [some 0] (sd 1 rfl rfl <| sr 3 rfl (.own _ rfl) <| sd 4 rfl rfl <| sn) (.cons rfl (roM D3) <| .nil) rfl rfl⟩
      · skip
        refine T_skip ?_
        refine T_keep (kc 1 rfl <| kc 3 rfl <| kc 4 rfl <| kn) rfl ?_
        refine T_reg ?_
        refine R_q _ rfl (v_move (ov rfl)) ?_
        refine R_q _ rfl (v_add (ov rfl) (ov rfl) rfl) ?_
        refine R_q _ rfl (v_assign (ov rfl)) ?_
        refine R_nil ?_
        exact ⟨(out2, (i64 (i + 1))), h, Ent.sel [some 0] (sd 1 rfl rfl <| sr 3 rfl (.own _ rfl) <| sd 4 rfl rfl <| sn) (.cons rfl (roM D3) <| .nil) rfl rfl⟩
    · skip
      refine T_exit ?_
      rw [lx h] at ho1
      replace h := ho1
      exact ⟨out2, h, Ent.sel [some 0] (sr 3 rfl (.own _ rfl) <| sn) (.cons rfl (roM D3) <| .nil) rfl rfl⟩
  · skip
    obtain ⟨out, rfl⟩ : ∃ x, x = j := ⟨_, rfl⟩
    replace h := t1i h
    refine t1T ?_
    refine T_seq (T_reg ?_)
    refine R_q _ rfl (v_move (ov rfl)) ?_
    refine R_q _ rfl (v_assign (ov rfl)) ?_
    refine R_nil ?_
    obtain rfl := rt (v := out) h
    refine T_ret (retq ?_ (.one (.tmp rfl (View.ownM rfl rfl D3))))
    rfl

theorem ok_ref5_Sorted {l : List Int} {r : (List Int)} (h : ref5_Sorted l = some r) :
    CSpec Tryd.prog gl0 67 [.sl 3 (List.map R3 l)] (.sl 3 (List.map R3 r)) := by
  unfold ref5_Sorted at h
  replace h := bnd0 h
  refine spec_of (by kernel_rfl) Tryd.func67 rfl rfl ?_
  intro w0 A
  refine T_seq (T_reg ?_)
  refine R_q _ rfl (v_assign (ov rfl)) ?_
  refine R_nil ?_
  refine T_keep (kc 0 rfl <| kn) rfl ?_
  refine T_seq (T_reg ?_)
  refine R_q _ rfl (v_move (ov rfl)) ?_
  obtain ⟨l2, h_l2, h⟩ := bnd h
  refine R_w _ _ rfl (w_append0G (r := 0) rfl (ov rfl) (slv_sl (ov rfl) tZ_3) tL33 rfl h_l2) ?_
  refine R_q _ rfl (v_assign (ov rfl)) ?_
  refine R_nil ?_
  refine T_joinG id (t1 fun out => ⟨[(3, .own 0 out.length)], [some ⟨3, List.map R3 out⟩]⟩) h (fun h => ?_) (fun j h => ?_)
  · skip
    refine T_keep (kc 3 rfl <| kn) rfl ?_
    refine T_seq (T_reg ?_)
    refine R_q _ rfl (v_assign (ov rfl)) ?_
    refine R_nil ?_
    refine T_block ?_
    obtain ⟨r1, hl1, ho1⟩ := bndL h
    refine T_loopG _ (t2 fun out2 i => ⟨[(3, .own 0 out2.length), (4, .int .i64 i)], [some ⟨3, List.map R3 out2⟩]⟩) _ hl1 (Ent.sel [some 0] (sr 3 rfl (.own _ rfl) <| sd 4 rfl rfl <| sn) (.cons rfl (roM D3) <| .nil) rfl rfl) (fun n1 s1 h => ?_)
    obtain ⟨out2, i⟩ := s1
    replace h := t2i h
    refine t2T ?_
    unfold ref5_Sorted_L1 at h
    refine T_seq ?_
    refine T_seq (T_reg ?_)
    refine R_q _ rfl (v_move (ov rfl)) ?_
    refine R_q _ rfl (v_move (ov rfl)) ?_
    refine R_q _ rfl (v_lenO (ov rfl) rfl rfl tL33) ?_
    refine R_q _ rfl (v_lss (ov rfl) (ov rfl)) ?_
    refine R_nil ?_
    refine T_keep (kc 3 rfl <| kc 4 rfl <| kc 11 rfl <| kn) rfl ?_
    refine T_if h rfl (fun b11 h => ?_) (fun b11 h => ?_)
    · skip
      refine T_skip ?_
      refine T_joinG id (t1 fun out3 => ⟨[(3, .own 0 out3.length), (4, .int .i64 i)], [some ⟨3, List.map R3 out3⟩]⟩) h (fun h => ?_) (fun j h => ?_)
      · skip
        refine T_block ?_
        refine T_keep (kc 3 rfl <| kc 4 rfl <| kn) rfl ?_
        refine T_seq (T_reg ?_)
        refine R_q _ rfl (v_move (ov rfl)) ?_
        refine R_q _ rfl (v_assign (ov rfl)) ?_
        refine R_nil ?_
        refine T_block ?_
        obtain ⟨r2, hl2, ho2⟩ := bndL h
        refine T_loopG _ (t2 fun out4 k => ⟨[(3, .own 0 out4.length), (4, .int .i64 i), (5, .int .i64 k)], [some ⟨3, List.map R3 out4⟩]⟩) _ hl2 (Ent.sel [some 0] (sr 3 rfl (.own _ rfl) <| sd 4 rfl rfl <| sd 5 rfl rfl <| sn) (.cons rfl (roM D3) <| .nil) rfl rfl) (fun n2 s2 h => ?_)
        obtain ⟨out4, k⟩ := s2
        replace h := t2i h
        refine t2T ?_
        unfold ref5_Sorted_L2 at h
        refine T_seq ?_
        refine T_seq (T_draw (cw := md0) (by kernel_rfl) ?_)
        refine D_free 0 _ rfl (by kernel_rfl) rfl rfl (fun hp' => v_move (ov rfl)) ?_
        refine D_free 1 _ rfl (by kernel_rfl) rfl rfl (fun hp' => v_gtr (ov rfl) (ov rfl)) ?_
        refine D_free 2 _ rfl (by kernel_rfl) rfl rfl (fun hp' => v_move (ov rfl)) ?_
        refine D_free 3 _ rfl (by kernel_rfl) rfl rfl (fun hp' => .guarded ((decide (0 < k)) == true) rfl rfl rfl rfl fun h => v_move (ov rfl)) ?_
        refine D_free 4 _ rfl (by kernel_rfl) rfl rfl (fun hp' => .guarded ((decide (0 < k)) == true) rfl rfl rfl rfl fun h => v_move (ov rfl)) ?_
        obtain ⟨x, h_x, h⟩ := bnd h
        refine D_read 5 _ rfl (by kernel_rfl) rfl rfl rfl ExtW.refl (fun hp' hx => .guarded ((decide (0 < k)) == true) rfl rfl rfl rfl fun h => v_ixOG (ow rfl h) (ow rfl h) tL33 (hx.get rfl rfl) rfl (gdT h_x h)) ?_
        refine D_read 6 _ rfl (by kernel_rfl) rfl rfl rfl ExtW.refl (fun hp' hx => .guarded ((decide (0 < k)) == true) rfl rfl rfl rfl fun h => v_loadSR (ow rfl h) (hx.get rfl rfl) rfl (gdT h_x h) tS3 rfl) ?_
        refine D_free 7 _ rfl (by kernel_rfl) rfl rfl (fun hp' => .guarded ((decide (0 < k)) == true) rfl rfl rfl rfl fun h => v_move (ov rfl)) ?_
        refine D_free 8 _ rfl (by kernel_rfl) rfl rfl (fun hp' => .guarded ((decide (0 < k)) == true) rfl rfl rfl rfl fun h => v_move (ov rfl)) ?_
        refine D_free 9 _ rfl (by kernel_rfl) rfl rfl (fun hp' => .guarded ((decide (0 < k)) == true) rfl rfl rfl rfl fun h => v_sub (ow rfl h) (ov rfl) rfl) ?_
        obtain ⟨x2, h_x2, h⟩ := bnd h
        refine D_read 10 _ rfl (by kernel_rfl) rfl rfl rfl ExtW.refl (fun hp' hx => .guarded ((decide (0 < k)) == true) rfl rfl rfl rfl fun h => v_ixOG (ow rfl h) (ow rfl h) tL33 (hx.get rfl rfl) rfl (gdT h_x2 h)) ?_
        refine D_read 11 _ rfl (by kernel_rfl) rfl rfl rfl ExtW.refl (fun hp' hx => .guarded ((decide (0 < k)) == true) rfl rfl rfl rfl fun h => v_loadSR (ow rfl h) (hx.get rfl rfl) rfl (gdT h_x2 h) tS3 rfl) ?_
        refine D_free 12 _ rfl (by kernel_rfl) rfl rfl (fun hp' => .guarded ((decide (0 < k)) == true) rfl rfl rfl rfl fun h => v_lss (ow rfl h) (ow rfl h)) ?_
        refine D_free 13 _ rfl (by kernel_rfl) rfl rfl (fun hp' => v_and (ov rfl) (fun hp => ow rfl (gT hp))) ?_
        refine D_done (by kernel_rfl) ?_
        refine T_keep (kc 3 rfl <| kc 4 rfl <| kc 5 rfl <| kc 28 rfl <| kn) rfl ?_
        refine T_if h rfl (fun b28 h => ?_) (fun b28 h => ?_)
        · skip
          refine T_skip ?_
          refine T_seq ?_
          refine T_block ?_
          refine T_keep (kc 3 rfl <| kc 4 rfl <| kc 5 rfl <| kn) rfl ?_
          refine T_draw (cw := md0) (by kernel_rfl) ?_
          refine D_free 0 _ rfl (by kernel_rfl) rfl rfl (fun hp' => v_move (ov rfl)) ?_
          refine D_free 1 _ rfl (by kernel_rfl) rfl rfl (fun hp' => v_move (ov rfl)) ?_
          refine D_free 2 _ rfl (by kernel_rfl) rfl rfl (fun hp' => v_move (ov rfl)) ?_
          refine D_free 3 _ rfl (by kernel_rfl) rfl rfl (fun hp' => v_move (ov rfl)) ?_
          refine D_free 4 _ rfl (by kernel_rfl) rfl rfl (fun hp' => v_sub (ov rfl) (ov rfl) rfl) ?_
          refine D_free 5 _ rfl (by kernel_rfl) rfl rfl (fun hp' => v_move (ov rfl)) ?_
          refine D_free 6 _ rfl (by kernel_rfl) rfl rfl (fun hp' => v_move (ov rfl)) ?_
          refine D_free 7 _ rfl (by kernel_rfl) rfl rfl (fun hp' => v_sub (ov rfl) (ov rfl) rfl) ?_
          obtain ⟨x3, h_x3, h⟩ := bnd h
          refine D_read 8 _ rfl (by kernel_rfl) rfl rfl rfl ExtW.refl (fun hp' hx => v_ixOG (ov rfl) (ov rfl) tL33 (hx.get rfl rfl) rfl h_x3) ?_
          refine D_read 9 _ rfl (by kernel_rfl) rfl rfl rfl ExtW.refl (fun hp' hx => v_loadSR (ov rfl) (hx.get rfl rfl) rfl h_x3 tS3 rfl) ?_
          refine D_free 10 _ rfl (by kernel_rfl) rfl rfl (fun hp' => v_move (ov rfl)) ?_
          refine D_free 11 _ rfl (by kernel_rfl) rfl rfl (fun hp' => v_move (ov rfl)) ?_
          obtain ⟨x4, h_x4, h⟩ := bnd h
          refine D_read 12 _ rfl (by kernel_rfl) rfl rfl rfl ExtW.refl (fun hp' hx => v_ixOG (ov rfl) (ov rfl) tL33 (hx.get rfl rfl) rfl h_x4) ?_
          refine D_read 13 _ rfl (by kernel_rfl) rfl rfl rfl ExtW.refl (fun hp' hx => v_loadSR (ov rfl) (hx.get rfl rfl) rfl h_x4 tS3 rfl) ?_
          obtain ⟨x5, h_x5, h⟩ := bnd h
          refine D_read 14 _ rfl (by kernel_rfl) rfl rfl rfl ExtW.refl (fun hp' hx => v_ixOG (ov rfl) (ov rfl) tL33 (hx.get rfl rfl) rfl h_x5) ?_
          refine D_one 15 _ _ rfl (by kernel_rfl) rfl rfl (fun h => by cases h) (fun h => by cases h) (w_storeR (u' := x3) (ov rfl) (ov rfl) (cells_scal tS3) rfl rfl h_x5 rfl (cell1_all rfl) rfl) ?_
          obtain ⟨x6, h_x6, h⟩ := bnd h
          refine D_read 16 _ rfl (by kernel_rfl) rfl rfl rfl ExtW.refl (fun hp' hx => v_ixOG (ov rfl) (ov rfl) tL33 (hx.get rfl rfl) ((List.length_set ..).trans rfl) h_x6) ?_
          refine D_one 17 _ _ rfl (by kernel_rfl) rfl rfl (fun h => by cases h) (fun h => by cases h) (w_storeR (u' := x4) (ov rfl) (ov rfl) (cells_scal tS3) rfl ((List.length_set ..).trans rfl) h_x6 rfl (cell1_all rfl) rfl) ?_
          refine D_done (by kernel_rfl) ?_
          refine T_keep (kc 3 rfl <| kc 4 rfl <| kc 5 rfl <| kn) rfl ?_
          refine T_reg ?_
          refine R_q _ rfl (v_move (ov rfl)) ?_
          refine R_q _ rfl (v_sub (ov rfl) (ov rfl) rfl) ?_
          refine R_q _ rfl (v_assign (ov rfl)) ?_
          refine R_nil ?_
          exact ⟨(((out4.set k.toNat x3).set (i64 (k - 1)).toNat x4), (i64 (k - 1))), h, Ent.sel [some 0] (sr 3 rfl (ownE (Eq.symm ((List.length_set ..).trans ((List.length_set ..).trans rfl))) rfl) <| sd 4 rfl rfl <| sd 5 rfl rfl <| sn) (.cons rfl (roM D3) <| .nil) rfl rfl⟩
        · skip
          refine T_exit ?_
          rw [lx h] at ho2
          replace h := ho2
          exact ⟨out4, h, Ent.sel [some 0] (sr 3 rfl (.own _ rfl) <| sd 4 rfl rfl <| sn) (.cons rfl (roM D3) <| .nil) rfl rfl⟩
      · skip
        obtain ⟨out3, rfl⟩ : ∃ x, x = j := ⟨_, rfl⟩
        replace h := t1i h
        refine t1T ?_
        refine T_reg ?_
        refine R_q _ rfl (v_move (ov rfl)) ?_
        refine R_q _ rfl (v_add (ov rfl) (ov rfl) rfl) ?_
        refine R_q _ rfl (v_assign (ov rfl)) ?_
        refine R_nil ?_
        exact ⟨(out3, (i64 (i + 1))), h, Ent.sel [some 0] (sr 3 rfl (.own _ rfl) <| sd 4 rfl rfl <| sn) (.cons rfl (roM D3) <| .nil) rfl rfl⟩
    · skip
      refine T_exit ?_
      rw [lx h] at ho1
      replace h := ho1
      exact ⟨out2, h, Ent.sel [some 0] (sr 3 rfl (.own _ rfl) <| sn) (.cons rfl (roM D3) <| .nil) rfl rfl⟩
  · skip
    obtain ⟨out, rfl⟩ : ∃ x, x = j := ⟨_, rfl⟩
    replace h := t1i h
    refine t1T ?_
    refine T_seq (T_reg ?_)
    refine R_q _ rfl (v_move (ov rfl)) ?_
    refine R_q _ rfl (v_assign (ov rfl)) ?_
    refine R_nil ?_
    obtain rfl := rt (v := out) h
    refine T_ret (retq ?_ (.one (.tmp rfl (View.ownM rfl rfl D3))))
    rfl

theorem ok_ref5_Median {s : api_Series} {width : Int} {r : api_Series × Int} (h : ref5_Median s width = some r) :
    CSpec Tryd.prog gl0 28 [.agg [.int .i64 s.Den, .sl 69 (List.map R69 s.Samples)], .int .i64 width] (.tuple [.agg [.int .i64 r.1.Den, .sl 69 (List.map R69 r.1.Samples)], .int .i64 r.2]) := by
  unfold ref5_Median at h
  replace h := bnd0 h
  refine spec_of (by kernel_rfl) Tryd.func28 rfl rfl ?_
  intro w0 A
  refine T_seq (T_reg ?_)
  refine R_q _ rfl (v_boxD (cva (ov rfl)) rfl tZ_24 rfl) ?_
  refine R_w _ _ rfl (w_alloc (row := [_, _]) 0 rfl tZ24 rfl tZ_24) ?_
  refine R_q _ rfl (v_assign (ov rfl)) ?_
  refine R_nil ?_
  refine T_seq ?_
  refine T_keep (kc 1 rfl <| kc 2 rfl <| kc 4 rfl <| kn) rfl ?_
  refine T_seq (T_reg ?_)
  refine R_q _ rfl (v_loadA_r (ov rfl) tA24 rfl rfl) ?_
  obtain ⟨y, h_y, h⟩ := bnd h
  refine R_q _ rfl (v_call (ok_ref5_Check h_y) (.cons (ov rfl) (.aggB rfl) <| .nil)) ?_
  refine R_q _ rfl (v_assign (ov rfl)) ?_
  refine R_nil ?_
  refine T_keep (kc 1 rfl <| kc 2 rfl <| kc 4 rfl <| kc 6 rfl <| kn) rfl ?_
  refine T_seq (T_reg ?_)
  refine R_q _ rfl (v_move (ov rfl)) ?_
  refine R_q _ rfl (v_neq (ov rfl) (ov rfl)) ?_
  refine R_nil ?_
  refine T_keep (kc 1 rfl <| kc 2 rfl <| kc 4 rfl <| kc 6 rfl <| kc 15 rfl <| kn) rfl ?_
  refine T_if h rfl (fun b15 h => ?_) (fun b15 h => ?_)
  · skip
    refine T_keep (kc 4 rfl <| kc 6 rfl <| kn) rfl ?_
    refine T_seq (T_reg ?_)
    refine R_q _ rfl (v_build (ys := [_, _]) tPL24 tHA24 tZ24 (.nil) rfl) ?_
    refine R_q _ rfl (v_move (ov rfl)) ?_
    refine R_w _ _ rfl (w_store (ov rfl) (ov rfl) (cells_agg tA24 rfl) rfl rfl rfl (Nat.le_of_ble_eq_true rfl) (cell1_all rfl) rfl) ?_
    refine R_q _ rfl (v_assign (ov rfl)) ?_
    refine R_nil ?_
    obtain rfl := rt (v := ((api_Series.mk 0 []), y)) h
    refine T_ret (retq ?_ (.two (.agg rfl rfl rfl rfl tA24 rfl rfl (.cons (Dat.view (.b rfl)) <| .cons (View.nils 69) <| .nil)) (.tmp rfl (Dat.view (.b rfl)))))
    rfl
  · skip
    refine T_skip ?_
    refine T_seq ?_
    refine T_keep (kc 1 rfl <| kc 2 rfl <| kc 4 rfl <| kn) rfl ?_
    refine T_seq (T_reg ?_)
    refine R_q _ rfl (v_move (ov rfl)) ?_
    obtain ⟨y2, h_y2, h⟩ := bnd h
    refine R_q _ rfl (v_call (ok_ref5_outside h_y2) (.cons (ov rfl) (.b rfl) <| .cons (ov rfl) (.b rfl) <| .cons (ov rfl) (.b rfl) <| .nil)) ?_
    refine R_q _ rfl (v_move (ov rfl)) ?_
    refine R_q _ rfl (.guarded (y2 == false) rfl rfl rfl rfl fun h => v_move (ov rfl)) ?_
    obtain ⟨q, h_q, h⟩ := bnd h
    refine R_q _ rfl (.guarded (y2 == false) rfl rfl rfl rfl fun h => v_remG (ow rfl h) (ov rfl) (gdT h_q h)) ?_
    refine R_q _ rfl (.guarded (y2 == false) rfl rfl rfl rfl fun h => v_eql (ow rfl h) (ov rfl)) ?_
    refine R_q _ rfl (v_or (ov rfl) (fun hp => ow rfl (gF hp))) ?_
    refine R_nil ?_
    refine T_keep (kc 1 rfl <| kc 2 rfl <| kc 4 rfl <| kc 24 rfl <| kn) rfl ?_
    refine T_if h rfl (fun b24 h => ?_) (fun b24 h => ?_)
    · skip
      refine T_keep (kc 4 rfl <| kn) rfl ?_
      refine T_seq (T_reg ?_)
      refine R_q _ rfl (v_build (ys := [_, _]) tPL24 tHA24 tZ24 (.nil) rfl) ?_
      refine R_w _ _ rfl (w_store (ov rfl) (ov rfl) (cells_agg tA24 rfl) rfl rfl rfl (Nat.le_of_ble_eq_true rfl) (cell1_all rfl) rfl) ?_
      refine R_q _ rfl (v_assign (ov rfl)) ?_
      refine R_nil ?_
      obtain rfl := rt (v := ((api_Series.mk 0 []), 1)) h
      refine T_ret (retq ?_ (.two (.agg rfl rfl rfl rfl tA24 rfl rfl (.cons (Dat.view (.b rfl)) <| .cons (View.nils 69) <| .nil)) (.tmp rfl (Dat.view (.b rfl)))))
      rfl
    · skip
      refine T_skip ?_
      refine T_keep (kc 1 rfl <| kc 2 rfl <| kc 4 rfl <| kn) rfl ?_
      refine T_seq (T_reg ?_)
      refine R_q _ rfl (v_loadA_r (ov rfl) tA24 rfl rfl) ?_
      obtain ⟨y3, h_y3, h⟩ := bnd h
      refine R_q _ rfl (v_call (ok_ref5_Solids h_y3) (.cons (ov rfl) (.aggB rfl) <| .nil)) ?_
      refine R_q _ rfl (v_assign (ov rfl)) ?_
      refine R_nil ?_
      refine T_keep (kc 1 rfl <| kc 2 rfl <| kc 4 rfl <| kc 7 rfl <| kn) rfl ?_
      refine T_seq (T_draw (cw := md0) (by kernel_rfl) ?_)
      refine D_read 0 _ rfl (by kernel_rfl) rfl rfl rfl ExtW.refl (fun hp' hx => v_fieldR (ov rfl) tF24_0) ?_
      refine D_read 1 _ rfl (by kernel_rfl) rfl rfl rfl ExtW.refl (fun hp' hx => v_loadS_r (ov rfl) tS3 rfl) ?_
      refine D_read 2 _ rfl (by kernel_rfl) rfl rfl rfl ExtW.refl (fun hp' hx => v_fieldR (ov rfl) tF24_1) ?_
      refine D_read 3 _ rfl (by kernel_rfl) rfl rfl rfl ExtW.refl (fun hp' hx => v_loadS_r (ov rfl) tS22 rfl) ?_
      obtain ⟨l, h_l, h⟩ := bnd h
      refine D_two 4 6 rfl rfl (by kernel_rfl) rfl rfl rfl rfl (fun _ => Ext.app) (fun _ => Ext.app) (fun h => by cases h) (fun h => by cases h) (w_append0G (r := 1) rfl (ov rfl) (slv_sl (ov rfl) tZ_69) tL22 rfl h_l) (w_alloc (row := [_, _]) 1 rfl tZ24 rfl tZ_24) ?_ ?_
      · skip
        refine D_free 5 _ rfl (by kernel_rfl) rfl rfl (fun hp' => v_build (ys := [_, _]) tPL24 tHA24 tZ24 (.cons (cvs (ov rfl) (cell1_b rfl)) <| .cons (cvs (ov rfl) (cell1_b rfl)) <| .nil) rfl) ?_
        refine D_one 6 _ _ rfl (by kernel_rfl) rfl rfl (fun _ => Ext.app) (fun h => by cases h) (w_alloc (row := [_, _]) 2 rfl tZ24 rfl tZ_24) ?_
        refine D_one 7 _ _ rfl (by kernel_rfl) rfl rfl (fun h => by cases h) (fun h => by cases h) (w_store (ov rfl) (ov rfl) (cells_agg tA24 rfl) rfl rfl rfl (Nat.le_of_ble_eq_true rfl) (cell1_all rfl) rfl) ?_
        refine D_done (by kernel_rfl) ?_
        refine T_joinG id (t1 fun Samples => ⟨[(4, .ptr 0 1 0 0), (8, .ptr 1 1 0 0)], [some ⟨24, [[.int .i64 0, .nils]]⟩, some ⟨24, [[.int .i64 s.Den, .own 2 Samples.length]]⟩, some ⟨69, List.map R69 Samples⟩]⟩) h (fun h => ?_) (fun j h => ?_)
        · skip
          refine T_keep (kc 1 rfl <| kc 2 rfl <| kc 4 rfl <| kc 7 rfl <| kc 8 rfl <| kn) rfl ?_
          refine T_seq (T_reg ?_)
          refine R_q _ rfl (v_assign (ov rfl)) ?_
          refine R_nil ?_
          refine T_block ?_
          obtain ⟨r1, hl1, ho1⟩ := bndL h
          refine T_loopG _ (t2 fun Samples2 i => ⟨[(1, .int .i64 width), (2, .rp [.int .i64 s.Den, .sl 69 (List.map R69 s.Samples)] 0), (4, .ptr 0 1 0 0), (7, .sl 3 (List.map R3 y3)), (8, .ptr 1 1 0 0), (9, .int .i64 i)], [some ⟨24, [[.int .i64 0, .nils]]⟩, some ⟨24, [[.int .i64 s.Den, .own 2 Samples2.length]]⟩, some ⟨69, List.map R69 Samples2⟩]⟩) _ hl1 (Ent.sel [some 0, some 2, some 1] (sd 1 rfl rfl <| sd 2 rfl rfl <| sr 4 rfl (.ptr _ _ _ rfl) <| sd 7 rfl rfl <| sr 8 rfl (.ptr _ _ _ rfl) <| sd 9 rfl rfl <| sn) (.cons rfl (ro1 (by exact tZ_24.symm) (rld rfl)) <| .cons rfl (ro1 (by exact tZ_24.symm) (rlc (.dat rfl) <| rlc (.own _ rfl) <| rln)) <| .cons rfl (roM D69) <| .nil) rfl rfl) (fun n1 s1 h => ?_)
          obtain ⟨Samples2, i⟩ := s1
          replace h := t2i h
          refine t2T ?_
          unfold ref5_Median_L1 at h
          refine T_seq ?_
          refine T_seq (T_reg ?_)
          refine R_q _ rfl (v_move (ov rfl)) ?_
          refine R_q _ rfl (v_move (ov rfl)) ?_
          refine R_q _ rfl (v_len (slv_sl (ov rfl) tZ_3) tL33 (len_map _ _)) ?_
          refine R_q _ rfl (v_lss (ov rfl) (ov rfl)) ?_
          refine R_nil ?_
          refine T_keep (kc 1 rfl <| kc 2 rfl <| kc 4 rfl <| kc 7 rfl <| kc 8 rfl <| kc 9 rfl <| kc 37 rfl <| kn) rfl ?_
          refine T_if h rfl (fun b37 h => ?_) (fun b37 h => ?_)
          · skip
            refine T_skip ?_
            refine T_seq ?_
            refine T_block ?_
            refine T_keep (kc 1 rfl <| kc 2 rfl <| kc 4 rfl <| kc 7 rfl <| kc 8 rfl <| kc 9 rfl <| kn) rfl ?_
            refine T_seq (T_reg ?_)
            refine R_q _ rfl (v_assign (ov rfl)) ?_
            refine R_nil ?_
            refine T_joinG id (t1 fun some_ => ⟨[(1, .int .i64 width), (2, .rp [.int .i64 s.Den, .sl 69 (List.map R69 s.Samples)] 0), (4, .ptr 0 1 0 0), (7, .sl 3 (List.map R3 y3)), (8, .ptr 1 1 0 0), (9, .int .i64 i), (10, .own 3 some_.length)], [some ⟨24, [[.int .i64 0, .nils]]⟩, some ⟨24, [[.int .i64 s.Den, .own 2 Samples2.length]]⟩, some ⟨69, List.map R69 Samples2⟩, some ⟨3, List.map R3 some_⟩]⟩) h (fun h => ?_) (fun j h => ?_)
            · skip
              refine T_seq (T_reg ?_)
              refine R_q _ rfl (v_move (ov rfl)) ?_
              refine R_q _ rfl (v_move (ov rfl)) ?_
              obtain ⟨q2, h_q2, h⟩ := bnd h
              refine R_q _ rfl (v_quoG (ov rfl) (ov rfl) h_q2) ?_
              refine R_q _ rfl (v_sub (ov rfl) (ov rfl) rfl) ?_
              refine R_q _ rfl (v_max (ov rfl) (ov rfl) rfl) ?_
              refine R_q _ rfl (v_assign (ov rfl)) ?_
              refine R_nil ?_
              refine T_block ?_
              obtain ⟨r2, hl2, ho2⟩ := bndL h
              refine T_loopG _ (t2 fun some_2 k => ⟨[(1, .int .i64 width), (2, .rp [.int .i64 s.Den, .sl 69 (List.map R69 s.Samples)] 0), (4, .ptr 0 1 0 0), (7, .sl 3 (List.map R3 y3)), (8, .ptr 1 1 0 0), (9, .int .i64 i), (10, .own 3 some_2.length), (11, .int .i64 k)], [some ⟨24, [[.int .i64 0, .nils]]⟩, some ⟨24, [[.int .i64 s.Den, .own 2 Samples2.length]]⟩, some ⟨69, List.map R69 Samples2⟩, some ⟨3, List.map R3 some_2⟩]⟩) _ hl2 (Ent.sel [some 0, some 1, some 2, none] (sd 1 rfl rfl <| sd 2 rfl rfl <| sr 4 rfl (.ptr _ _ _ rfl) <| sd 7 rfl rfl <| sr 8 rfl (.ptr _ _ _ rfl) <| sd 9 rfl rfl <| sr 10 rfl (.row rfl) <| sd 11 rfl rfl <| sn) (.cons rfl (ro1 (by exact tZ_24.symm) (rld rfl)) <| .cons rfl (ro1 (by exact tZ_24.symm) (rlc (.dat rfl) <| rlc (.own _ rfl) <| rln)) <| .cons rfl (roM D69) <| .row 3 <| .nil) rfl rfl) (fun n2 s2 h => ?_)
              obtain ⟨some_2, k⟩ := s2
              replace h := t2i h
              refine t2T ?_
              unfold ref5_Median_L2 at h
              refine T_seq ?_
              refine T_seq (T_reg ?_)
              refine R_q _ rfl (v_move (ov rfl)) ?_
              refine R_q _ rfl (v_move (ov rfl)) ?_
              refine R_q _ rfl (v_len (slv_sl (ov rfl) tZ_3) tL33 (len_map _ _)) ?_
              refine R_q _ rfl (v_lss (ov rfl) (ov rfl)) ?_
              refine R_q _ rfl (v_move (ov rfl)) ?_
              refine R_q _ rfl (.guarded ((decide (k < (y3.length : Int))) == true) rfl rfl rfl rfl fun h => v_move (ov rfl)) ?_
              refine R_q _ rfl (.guarded ((decide (k < (y3.length : Int))) == true) rfl rfl rfl rfl fun h => v_move (ov rfl)) ?_
              refine R_q _ rfl (.guarded ((decide (k < (y3.length : Int))) == true) rfl rfl rfl rfl fun h => v_move (ov rfl)) ?_
              obtain ⟨q3, h_q3, h⟩ := bnd h
              refine R_q _ rfl (.guarded ((decide (k < (y3.length : Int))) == true) rfl rfl rfl rfl fun h => v_quoG (ow rfl h) (ov rfl) (gdT h_q3 h)) ?_
              refine R_q _ rfl (.guarded ((decide (k < (y3.length : Int))) == true) rfl rfl rfl rfl fun h => v_add (ow rfl h) (ow rfl h) rfl) ?_
              refine R_q _ rfl (.guarded ((decide (k < (y3.length : Int))) == true) rfl rfl rfl rfl fun h => v_leq (ow rfl h) (ow rfl h)) ?_
              refine R_q _ rfl (v_and (ov rfl) (fun hp => ow rfl (gT hp))) ?_
              refine R_nil ?_
              refine T_keep (kc 1 rfl <| kc 2 rfl <| kc 4 rfl <| kc 7 rfl <| kc 8 rfl <| kc 9 rfl <| kc 10 rfl <| kc 11 rfl <| kc 56 rfl <| kn) rfl ?_
              refine T_if h rfl (fun b56 h => ?_) (fun b56 h => ?_)
              · skip
                refine T_skip ?_
                refine T_seq ?_
                refine T_block ?_
                refine T_keep (kc 1 rfl <| kc 2 rfl <| kc 4 rfl <| kc 7 rfl <| kc 8 rfl <| kc 9 rfl <| kc 10 rfl <| kc 11 rfl <| kn) rfl ?_
                refine T_draw (cw := md0) (by kernel_rfl) ?_
                refine D_free 0 _ rfl (by kernel_rfl) rfl rfl (fun hp' => v_move (ov rfl)) ?_
                refine D_read 1 _ rfl (by kernel_rfl) rfl rfl rfl ExtW.refl (fun hp' hx => v_fieldR (ov rfl) tF24_1) ?_
                refine D_read 2 _ rfl (by kernel_rfl) rfl rfl rfl ExtW.refl (fun hp' hx => v_loadS_r (ov rfl) tS22 rfl) ?_
                refine D_free 3 _ rfl (by kernel_rfl) rfl rfl (fun hp' => v_move (ov rfl)) ?_
                refine D_free 4 _ rfl (by kernel_rfl) rfl rfl (fun hp' => v_move (ov rfl)) ?_
                obtain ⟨x, h_x, h⟩ := bnd h
                refine D_read 5 _ rfl (by kernel_rfl) rfl rfl rfl ExtW.refl (fun hp' hx => v_ixSG (ov rfl) (ov rfl) tL33 h_x) ?_
                refine D_read 6 _ rfl (by kernel_rfl) rfl rfl rfl ExtW.refl (fun hp' hx => v_loadS_r (ov rfl) tS3 rfl) ?_
                obtain ⟨x2, h_x2, h⟩ := bnd h
                refine D_read 7 _ rfl (by kernel_rfl) rfl rfl rfl ExtW.refl (fun hp' hx => v_ixSG (ov rfl) (ov rfl) tL22 h_x2) ?_
                refine D_read 8 _ rfl (by kernel_rfl) rfl rfl rfl ExtW.refl (fun hp' hx => v_fieldR (ov rfl) tF69_1) ?_
                refine D_read 9 _ rfl (by kernel_rfl) rfl rfl rfl ExtW.refl (fun hp' hx => v_loadS_r (ov rfl) tS3 rfl) ?_
                refine D_free 10 (.sl 3 (List.map R3 ([x2.N] : List Int))) rfl (by kernel_rfl) rfl rfl (fun hp' => v_lit tL33 (.cons (cvs (ov rfl) (cell1_b rfl)) rfl (.cons (.b rfl) .nil) <| .nil) rfl rfl) ?_
                obtain ⟨l2, h_l2, h⟩ := bnd h
                refine D_one 11 _ _ rfl (by kernel_rfl) rfl rfl (fun h => by cases h) (fun h => by cases h) (w_appendG (ov rfl) (slv_sl (ov rfl) tZ_3) tL33 rfl rfl rfl (fun _ => cell1_all rfl) rfl h_l2) ?_
                refine D_free 12 _ rfl (by kernel_rfl) rfl rfl (fun hp' => v_assign (ov rfl)) ?_
                refine D_done (by kernel_rfl) ?_
                refine T_keep (kc 1 rfl <| kc 2 rfl <| kc 4 rfl <| kc 7 rfl <| kc 8 rfl <| kc 9 rfl <| kc 10 rfl <| kc 11 rfl <| kn) rfl ?_
                refine T_reg ?_
                refine R_q _ rfl (v_move (ov rfl)) ?_
                refine R_q _ rfl (v_add (ov rfl) (ov rfl) rfl) ?_
                refine R_q _ rfl (v_assign (ov rfl)) ?_
                refine R_nil ?_
                exact ⟨(l2, (i64 (k + 1))), h, Ent.sel [some 0, some 1, some 2, some 3] (sd 1 rfl rfl <| sd 2 rfl rfl <| sr 4 rfl (.ptr _ _ _ rfl) <| sd 7 rfl rfl <| sr 8 rfl (.ptr _ _ _ rfl) <| sd 9 rfl rfl <| sr 10 rfl (.own _ rfl) <| sd 11 rfl rfl <| sn) (.cons rfl (ro1 (by exact tZ_24.symm) (rld rfl)) <| .cons rfl (ro1 (by exact tZ_24.symm) (rlc (.dat rfl) <| rlc (.own _ rfl) <| rln)) <| .cons rfl (roM D69) <| .cons rfl (roM D3) <| .nil) rfl rfl⟩
              · skip
                refine T_exit ?_
                rw [lx h] at ho2
                replace h := ho2
                exact ⟨some_2, h, Ent.sel [some 0, some 1, some 2, some 3] (sd 1 rfl rfl <| sd 2 rfl rfl <| sr 4 rfl (.ptr _ _ _ rfl) <| sd 7 rfl rfl <| sr 8 rfl (.ptr _ _ _ rfl) <| sd 9 rfl rfl <| sr 10 rfl (.own _ rfl) <| sn) (.cons rfl (ro1 (by exact tZ_24.symm) (rld rfl)) <| .cons rfl (ro1 (by exact tZ_24.symm) (rlc (.dat rfl) <| rlc (.own _ rfl) <| rln)) <| .cons rfl (roM D69) <| .cons rfl (roM D3) <| .nil) rfl rfl⟩
            · skip
              obtain ⟨some_, rfl⟩ : ∃ x, x = j := ⟨_, rfl⟩
              replace h := t1i h
              refine t1T ?_
              refine T_ent (Ent.sel [some 0, some 1, some 2, none] (sd 1 rfl rfl <| sd 2 rfl rfl <| sr 4 rfl (.ptr (r' := 0) _ _ _ rfl) <| sd 7 rfl rfl <| sr 8 rfl (.ptr (r' := 1) _ _ _ rfl) <| sd 9 rfl rfl <| sr 10 rfl (frzM rfl rfl rfl D3) <| sn) (.cons rfl (ro1 (by exact tZ_24.symm) (rlc (.dat rfl) <| rlc (.dat rfl) <| rln)) <| .cons rfl (ro1 (by exact tZ_24.symm) (rlc (.dat rfl) <| rlc (.own (r' := 2) _ rfl) <| rln)) <| .cons rfl (roM D69) <| .row 3 <| .nil) rfl rfl) ?_
              refine T_draw (cw := md0) (by kernel_rfl) ?_
              refine D_read 0 _ rfl (by kernel_rfl) rfl rfl rfl ExtW.refl (fun hp' hx => v_fieldP (ov rfl) (hx.get rfl rfl) rfl tF24_1) ?_
              refine D_read 1 _ rfl (by kernel_rfl) rfl rfl rfl ExtW.refl (fun hp' hx => v_loadS (ov rfl) (hx.get rfl rfl) rfl rfl tS22 rfl) ?_
              refine D_free 2 _ rfl (by kernel_rfl) rfl rfl (fun hp' => v_move (ov rfl)) ?_
              refine D_free 3 _ rfl (by kernel_rfl) rfl rfl (fun hp' => v_move (ov rfl)) ?_
              obtain ⟨x3, h_x3, h⟩ := bnd h
              refine D_read 4 _ rfl (by kernel_rfl) rfl rfl rfl ExtW.refl (fun hp' hx => v_ixSG (ov rfl) (ov rfl) tL33 h_x3) ?_
              refine D_read 5 _ rfl (by kernel_rfl) rfl rfl rfl ExtW.refl (fun hp' hx => v_loadS_r (ov rfl) tS3 rfl) ?_
              refine D_free 6 _ rfl (by kernel_rfl) rfl rfl (fun hp' => v_move (ov rfl)) ?_
              obtain ⟨y4, h_y4, h⟩ := bnd h
              refine D_read 7 _ rfl (by kernel_rfl) rfl rfl rfl ExtW.refl (fun hp' hx => v_call (ok_ref5_Sorted h_y4) (.cons (ov rfl) (.b rfl) <| .nil)) ?_
              refine D_free 8 _ rfl (by kernel_rfl) rfl rfl (fun hp' => v_move (ov rfl)) ?_
              refine D_read 9 _ rfl (by kernel_rfl) rfl rfl rfl ExtW.refl (fun hp' hx => v_len (slv_sl (ov rfl) tZ_3) tL33 (len_map _ _)) ?_
              refine D_free 10 _ rfl (by kernel_rfl) rfl rfl (fun hp' => v_sub (ov rfl) (ov rfl) rfl) ?_
              obtain ⟨q4, h_q4, h⟩ := bnd h
              refine D_free 11 _ rfl (by kernel_rfl) rfl rfl (fun hp' => v_quoG (ov rfl) (ov rfl) h_q4) ?_
              obtain ⟨x4, h_x4, h⟩ := bnd h
              refine D_read 12 _ rfl (by kernel_rfl) rfl rfl rfl ExtW.refl (fun hp' hx => v_ixSG (ov rfl) (ov rfl) tL33 h_x4) ?_
              refine D_read 13 _ rfl (by kernel_rfl) rfl rfl rfl ExtW.refl (fun hp' hx => v_loadS_r (ov rfl) tS3 rfl) ?_
              obtain ⟨x5, h_x5, h⟩ := bnd h
              refine D_read 14 _ rfl (by kernel_rfl) rfl rfl rfl ExtW.refl (fun hp' hx => v_ixOG (ov rfl) (ov rfl) tL22 (hx.get rfl rfl) rfl h_x5) ?_
              refine D_read 15 _ rfl (by kernel_rfl) rfl rfl rfl ExtW.refl (fun hp' hx => v_fieldPR (ov rfl) (hx.get rfl rfl) rfl tF69_1) ?_
              refine D_one 16 _ _ rfl (by kernel_rfl) rfl rfl (fun h => by cases h) (fun h => by cases h) (w_storeR (u' := (api_Sample.mk x5.At x4 x5.Mark)) (ov rfl) (ov rfl) (cells_scal tS3) rfl rfl h_x5 rfl (cell1_all rfl) rfl) ?_
              refine D_done (by kernel_rfl) ?_
              refine T_keep (kc 1 rfl <| kc 2 rfl <| kc 4 rfl <| kc 7 rfl <| kc 8 rfl <| kc 9 rfl <| kn) rfl ?_
              refine T_reg ?_
              refine R_q _ rfl (v_move (ov rfl)) ?_
              refine R_q _ rfl (v_add (ov rfl) (ov rfl) rfl) ?_
              refine R_q _ rfl (v_assign (ov rfl)) ?_
              refine R_nil ?_
              exact ⟨((Samples2.set x3.toNat (api_Sample.mk x5.At x4 x5.Mark)), (i64 (i + 1))), h, Ent.sel [some 0, some 1, some 2] (sd 1 rfl rfl <| sd 2 rfl rfl <| sr 4 rfl (.ptr _ _ _ rfl) <| sd 7 rfl rfl <| sr 8 rfl (.ptr _ _ _ rfl) <| sd 9 rfl rfl <| sn) (.cons rfl (ro1 (by exact tZ_24.symm) (rld rfl)) <| .cons rfl (ro1 (by exact tZ_24.symm) (rlc (.dat rfl) <| rlc (ownE (Eq.symm ((List.length_set ..).trans rfl)) rfl) <| rln)) <| .cons rfl (roM D69) <| .nil) rfl rfl⟩
          · skip
            refine T_exit ?_
            rw [lx h] at ho1
            replace h := ho1
            exact ⟨Samples2, h, Ent.sel [some 0, some 1, some 2] (sr 4 rfl (.ptr _ _ _ rfl) <| sr 8 rfl (.ptr _ _ _ rfl) <| sn) (.cons rfl (ro1 (by exact tZ_24.symm) (rld rfl)) <| .cons rfl (ro1 (by exact tZ_24.symm) (rlc (.dat rfl) <| rlc (.own _ rfl) <| rln)) <| .cons rfl (roM D69) <| .nil) rfl rfl⟩
        · skip
          obtain ⟨Samples, rfl⟩ : ∃ x, x = j := ⟨_, rfl⟩
          replace h := t1i h
          refine t1T ?_
          refine T_seq (T_reg ?_)
          refine R_q _ rfl (v_loadA (ov rfl) rfl rfl rfl tA24 rfl rfl) ?_
          refine R_w _ _ rfl (w_store (ov rfl) (ov rfl) (cells_agg tA24 rfl) rfl rfl rfl (Nat.le_of_ble_eq_true rfl) (cell1_all rfl) rfl) ?_
          refine R_q _ rfl (v_assign (ov rfl)) ?_
          refine R_nil ?_
          obtain rfl := rt (v := ((api_Series.mk s.Den Samples), 0)) h
          refine T_ret (retq ?_ (.two (.agg rfl rfl rfl rfl tA24 rfl rfl (.cons (Dat.view (.b rfl)) <| .cons (View.ownM rfl rfl D69) <| .nil)) (.tmp rfl (Dat.view (.b rfl)))))
          rfl
      · skip
        refine D_one 4 _ _ rfl (by kernel_rfl) rfl rfl (fun _ => Ext.app) (fun h => by cases h) (w_append0G (r := 2) rfl (ov rfl) (slv_sl (ov rfl) tZ_69) tL22 rfl h_l) ?_
        refine D_free 5 _ rfl (by kernel_rfl) rfl rfl (fun hp' => v_build (ys := [_, _]) tPL24 tHA24 tZ24 (.cons (cvs (ov rfl) (cell1_b rfl)) <| .cons (cvs (ov rfl) (cell1_b rfl)) <| .nil) rfl) ?_
        refine D_one 7 _ _ rfl (by kernel_rfl) rfl rfl (fun h => by cases h) (fun h => by cases h) (w_store (ov rfl) (ov rfl) (cells_agg tA24 rfl) rfl rfl rfl (Nat.le_of_ble_eq_true rfl) (cell1_all rfl) rfl) ?_
        refine D_done (by kernel_rfl) ?_
        refine T_joinG id (t1 fun Samples => ⟨[(4, .ptr 0 1 0 0), (8, .ptr 1 1 0 0)], [some ⟨24, [[.int .i64 0, .nils]]⟩, some ⟨24, [[.int .i64 s.Den, .own 2 Samples.length]]⟩, some ⟨69, List.map R69 Samples⟩]⟩) h (fun h => ?_) (fun j h => ?_)
        · skip
          refine T_keep (kc 1 rfl <| kc 2 rfl <| kc 4 rfl <| kc 7 rfl <| kc 8 rfl <| kn) rfl ?_
          refine T_seq (T_reg ?_)
          refine R_q _ rfl (v_assign (ov rfl)) ?_
          refine R_nil ?_
          refine T_block ?_
          obtain ⟨r1, hl1, ho1⟩ := bndL h
          refine T_loopG _ (t2 fun Samples2 i => ⟨[(1, .int .i64 width), (2, .rp [.int .i64 s.Den, .sl 69 (List.map R69 s.Samples)] 0), (4, .ptr 0 1 0 0), (7, .sl 3 (List.map R3 y3)), (8, .ptr 1 1 0 0), (9, .int .i64 i)], [some ⟨24, [[.int .i64 0, .nils]]⟩, some ⟨24, [[.int .i64 s.Den, .own 2 Samples2.length]]⟩, some ⟨69, List.map R69 Samples2⟩]⟩) _ hl1 (Ent.sel [some 0, some 1, some 2] (sd 1 rfl rfl <| sd 2 rfl rfl <| sr 4 rfl (.ptr _ _ _ rfl) <| sd 7 rfl rfl <| sr 8 rfl (.ptr _ _ _ rfl) <| sd 9 rfl rfl <| sn) (.cons rfl (ro1 (by exact tZ_24.symm) (rld rfl)) <| .cons rfl (ro1 (by exact tZ_24.symm) (rlc (.dat rfl) <| rlc (.own _ rfl) <| rln)) <| .cons rfl (roM D69) <| .nil) rfl rfl) (fun n1 s1 h => ?_)
          obtain ⟨Samples2, i⟩ := s1
          replace h := t2i h
          refine t2T ?_
          unfold ref5_Median_L1 at h
          refine T_seq ?_
          refine T_seq (T_reg ?_)
          refine R_q _ rfl (v_move (ov rfl)) ?_
          refine R_q _ rfl (v_move (ov rfl)) ?_
          refine R_q _ rfl (v_len (slv_sl (ov rfl) tZ_3) tL33 (len_map _ _)) ?_
          refine R_q _ rfl (v_lss (ov rfl) (ov rfl)) ?_
          refine R_nil ?_
          refine T_keep (kc 1 rfl <| kc 2 rfl <| kc 4 rfl <| kc 7 rfl <| kc 8 rfl <| kc 9 rfl <| kc 37 rfl <| kn) rfl ?_
          refine T_if h rfl (fun b37 h => ?_) (fun b37 h => ?_)
          · skip
            refine T_skip ?_
            refine T_seq ?_
            refine T_block ?_
            refine T_keep (kc 1 rfl <| kc 2 rfl <| kc 4 rfl <| kc 7 rfl <| kc 8 rfl <| kc 9 rfl <| kn) rfl ?_
            refine T_seq (T_reg ?_)
            refine R_q _ rfl (v_assign (ov rfl)) ?_
            refine R_nil ?_
            refine T_joinG id (t1 fun some_ => ⟨[(1, .int .i64 width), (2, .rp [.int .i64 s.Den, .sl 69 (List.map R69 s.Samples)] 0), (4, .ptr 0 1 0 0), (7, .sl 3 (List.map R3 y3)), (8, .ptr 1 1 0 0), (9, .int .i64 i), (10, .own 3 some_.length)], [some ⟨24, [[.int .i64 0, .nils]]⟩, some ⟨24, [[.int .i64 s.Den, .own 2 Samples2.length]]⟩, some ⟨69, List.map R69 Samples2⟩, some ⟨3, List.map R3 some_⟩]⟩) h (fun h => ?_) (fun j h => ?_)
            · skip
              refine T_seq (T_reg ?_)
              refine R_q _ rfl (v_move (ov rfl)) ?_
              refine R_q _ rfl (v_move (ov rfl)) ?_
              obtain ⟨q2, h_q2, h⟩ := bnd h
              refine R_q _ rfl (v_quoG (ov rfl) (ov rfl) h_q2) ?_
              refine R_q _ rfl (v_sub (ov rfl) (ov rfl) rfl) ?_
              refine R_q _ rfl (v_max (ov rfl) (ov rfl) rfl) ?_
              refine R_q _ rfl (v_assign (ov rfl)) ?_
              refine R_nil ?_
              refine T_block ?_
              obtain ⟨r2, hl2, ho2⟩ := bndL h
              refine T_loopG _ (t2 fun some_2 k => ⟨[(1, .int .i64 width), (2, .rp [.int .i64 s.Den, .sl 69 (List.map R69 s.Samples)] 0), (4, .ptr 0 1 0 0), (7, .sl 3 (List.map R3 y3)), (8, .ptr 1 1 0 0), (9, .int .i64 i), (10, .own 3 some_2.length), (11, .int .i64 k)], [some ⟨24, [[.int .i64 0, .nils]]⟩, some ⟨24, [[.int .i64 s.Den, .own 2 Samples2.length]]⟩, some ⟨69, List.map R69 Samples2⟩, some ⟨3, List.map R3 some_2⟩]⟩) _ hl2 (Ent.sel [some 0, some 1, some 2, none] (sd 1 rfl rfl <| sd 2 rfl rfl <| sr 4 rfl (.ptr _ _ _ rfl) <| sd 7 rfl rfl <| sr 8 rfl (.ptr _ _ _ rfl) <| sd 9 rfl rfl <| sr 10 rfl (.row rfl) <| sd 11 rfl rfl <| sn) (.cons rfl (ro1 (by exact tZ_24.symm) (rld rfl)) <| .cons rfl (ro1 (by exact tZ_24.symm) (rlc (.dat rfl) <| rlc (.own _ rfl) <| rln)) <| .cons rfl (roM D69) <| .row 3 <| .nil) rfl rfl) (fun n2 s2 h => ?_)
              obtain ⟨some_2, k⟩ := s2
              replace h := t2i h
              refine t2T ?_
              unfold ref5_Median_L2 at h
              refine T_seq ?_
              refine T_seq (T_reg ?_)
              refine R_q _ rfl (v_move (ov rfl)) ?_
              refine R_q _ rfl (v_move (ov rfl)) ?_
              refine R_q _ rfl (v_len (slv_sl (ov rfl) tZ_3) tL33 (len_map _ _)) ?_
              refine R_q _ rfl (v_lss (ov rfl) (ov rfl)) ?_
              refine R_q _ rfl (v_move (ov rfl)) ?_
              refine R_q _ rfl (.guarded ((decide (k < (y3.length : Int))) == true) rfl rfl rfl rfl fun h => v_move (ov rfl)) ?_
              refine R_q _ rfl (.guarded ((decide (k < (y3.length : Int))) == true) rfl rfl rfl rfl fun h => v_move (ov rfl)) ?_
              refine R_q _ rfl (.guarded ((decide (k < (y3.length : Int))) == true) rfl rfl rfl rfl fun h => v_move (ov rfl)) ?_
              obtain ⟨q3, h_q3, h⟩ := bnd h
              refine R_q _ rfl (.guarded ((decide (k < (y3.length : Int))) == true) rfl rfl rfl rfl fun h => v_quoG (ow rfl h) (ov rfl) (gdT h_q3 h)) ?_
              refine R_q _ rfl (.guarded ((decide (k < (y3.length : Int))) == true) rfl rfl rfl rfl fun h => v_add (ow rfl h) (ow rfl h) rfl) ?_
              refine R_q _ rfl (.guarded ((decide (k < (y3.length : Int))) == true) rfl rfl rfl rfl fun h => v_leq (ow rfl h) (ow rfl h)) ?_
              refine R_q _ rfl (v_and (ov rfl) (fun hp => ow rfl (gT hp))) ?_
              refine R_nil ?_
              refine T_keep (kc 1 rfl <| kc 2 rfl <| kc 4 rfl <| kc 7 rfl <| kc 8 rfl <| kc 9 rfl <| kc 10 rfl <| kc 11 rfl <| kc 56 rfl <| kn) rfl ?_
              refine T_if h rfl (fun b56 h => ?_) (fun b56 h => ?_)
              · skip
                refine T_skip ?_
                refine T_seq ?_
                refine T_block ?_
                refine T_keep (kc 1 rfl <| kc 2 rfl <| kc 4 rfl <| kc 7 rfl <| kc 8 rfl <| kc 9 rfl <| kc 10 rfl <| kc 11 rfl <| kn) rfl ?_
                refine T_draw (cw := md0) (by kernel_rfl) ?_
                refine D_free 0 _ rfl (by kernel_rfl) rfl rfl (fun hp' => v_move (ov rfl)) ?_
                refine D_read 1 _ rfl (by kernel_rfl) rfl rfl rfl ExtW.refl (fun hp' hx => v_fieldR (ov rfl) tF24_1) ?_
                refine D_read 2 _ rfl (by kernel_rfl) rfl rfl rfl ExtW.refl (fun hp' hx => v_loadS_r (ov rfl) tS22 rfl) ?_
                refine D_free 3 _ rfl (by kernel_rfl) rfl rfl (fun hp' => v_move (ov rfl)) ?_
                refine D_free 4 _ rfl (by kernel_rfl) rfl rfl (fun hp' => v_move (ov rfl)) ?_
                obtain ⟨x, h_x, h⟩ := bnd h
                refine D_read 5 _ rfl (by kernel_rfl) rfl rfl rfl ExtW.refl (fun hp' hx => v_ixSG (ov rfl) (ov rfl) tL33 h_x) ?_
                refine D_read 6 _ rfl (by kernel_rfl) rfl rfl rfl ExtW.refl (fun hp' hx => v_loadS_r (ov rfl) tS3 rfl) ?_
                obtain ⟨x2, h_x2, h⟩ := bnd h
                refine D_read 7 _ rfl (by kernel_rfl) rfl rfl rfl ExtW.refl (fun hp' hx => v_ixSG (ov rfl) (ov rfl) tL22 h_x2) ?_
                refine D_read 8 _ rfl (by kernel_rfl) rfl rfl rfl ExtW.refl (fun hp' hx => v_fieldR (ov rfl) tF69_1) ?_
                refine D_read 9 _ rfl (by kernel_rfl) rfl rfl rfl ExtW.refl (fun hp' hx => v_loadS_r (ov rfl) tS3 rfl) ?_
                refine D_free 10 (.sl 3 (List.map R3 ([x2.N] : List Int))) rfl (by kernel_rfl) rfl rfl (fun hp' => v_lit tL33 (.cons (cvs (ov rfl) (cell1_b rfl)) rfl (.cons (.b rfl) .nil) <| .nil) rfl rfl) ?_
                obtain ⟨l2, h_l2, h⟩ := bnd h
                refine D_one 11 _ _ rfl (by kernel_rfl) rfl rfl (fun h => by cases h) (fun h => by cases h) (w_appendG (ov rfl) (slv_sl (ov rfl) tZ_3) tL33 rfl rfl rfl (fun _ => cell1_all rfl) rfl h_l2) ?_
                refine D_free 12 _ rfl (by kernel_rfl) rfl rfl (fun hp' => v_assign (ov rfl)) ?_
                refine D_done (by kernel_rfl) ?_
                refine T_keep (kc 1 rfl <| kc 2 rfl <| kc 4 rfl <| kc 7 rfl <| kc 8 rfl <| kc 9 rfl <| kc 10 rfl <| kc 11 rfl <| kn) rfl ?_
                refine T_reg ?_
                refine R_q _ rfl (v_move (ov rfl)) ?_
                refine R_q _ rfl (v_add (ov rfl) (ov rfl) rfl) ?_
                refine R_q _ rfl (v_assign (ov rfl)) ?_
                refine R_nil ?_
                exact ⟨(l2, (i64 (k + 1))), h, Ent.sel [some 0, some 1, some 2, some 3] (sd 1 rfl rfl <| sd 2 rfl rfl <| sr 4 rfl (.ptr _ _ _ rfl) <| sd 7 rfl rfl <| sr 8 rfl (.ptr _ _ _ rfl) <| sd 9 rfl rfl <| sr 10 rfl (.own _ rfl) <| sd 11 rfl rfl <| sn) (.cons rfl (ro1 (by exact tZ_24.symm) (rld rfl)) <| .cons rfl (ro1 (by exact tZ_24.symm) (rlc (.dat rfl) <| rlc (.own _ rfl) <| rln)) <| .cons rfl (roM D69) <| .cons rfl (roM D3) <| .nil) rfl rfl⟩
              · skip
                refine T_exit ?_
                rw [lx h] at ho2
                replace h := ho2
                exact ⟨some_2, h, Ent.sel [some 0, some 1, some 2, some 3] (sd 1 rfl rfl <| sd 2 rfl rfl <| sr 4 rfl (.ptr _ _ _ rfl) <| sd 7 rfl rfl <| sr 8 rfl (.ptr _ _ _ rfl) <| sd 9 rfl rfl <| sr 10 rfl (.own _ rfl) <| sn) (.cons rfl (ro1 (by exact tZ_24.symm) (rld rfl)) <| .cons rfl (ro1 (by exact tZ_24.symm) (rlc (.dat rfl) <| rlc (.own _ rfl) <| rln)) <| .cons rfl (roM D69) <| .cons rfl (roM D3) <| .nil) rfl rfl⟩
            · skip
              obtain ⟨some_, rfl⟩ : ∃ x, x = j := ⟨_, rfl⟩
              replace h := t1i h
              refine t1T ?_
              refine T_ent (Ent.sel [some 0, some 1, some 2, none] (sd 1 rfl rfl <| sd 2 rfl rfl <| sr 4 rfl (.ptr (r' := 0) _ _ _ rfl) <| sd 7 rfl rfl <| sr 8 rfl (.ptr (r' := 1) _ _ _ rfl) <| sd 9 rfl rfl <| sr 10 rfl (frzM rfl rfl rfl D3) <| sn) (.cons rfl (ro1 (by exact tZ_24.symm) (rlc (.dat rfl) <| rlc (.dat rfl) <| rln)) <| .cons rfl (ro1 (by exact tZ_24.symm) (rlc (.dat rfl) <| rlc (.own (r' := 2) _ rfl) <| rln)) <| .cons rfl (roM D69) <| .row 3 <| .nil) rfl rfl) ?_
              refine T_draw (cw := md0) (by kernel_rfl) ?_
              refine D_read 0 _ rfl (by kernel_rfl) rfl rfl rfl ExtW.refl (fun hp' hx => v_fieldP (ov rfl) (hx.get rfl rfl) rfl tF24_1) ?_
              refine D_read 1 _ rfl (by kernel_rfl) rfl rfl rfl ExtW.refl (fun hp' hx => v_loadS (ov rfl) (hx.get rfl rfl) rfl rfl tS22 rfl) ?_
              refine D_free 2 _ rfl (by kernel_rfl) rfl rfl (fun hp' => v_move (ov rfl)) ?_
              refine D_free 3 _ rfl (by kernel_rfl) rfl rfl (fun hp' => v_move (ov rfl)) ?_
              obtain ⟨x3, h_x3, h⟩ := bnd h
              refine D_read 4 _ rfl (by kernel_rfl) rfl rfl rfl ExtW.refl (fun hp' hx => v_ixSG (ov rfl) (ov rfl) tL33 h_x3) ?_
              refine D_read 5 _ rfl (by kernel_rfl) rfl rfl rfl ExtW.refl (fun hp' hx => v_loadS_r (ov rfl) tS3 rfl) ?_
              refine D_free 6 _ rfl (by kernel_rfl) rfl rfl (fun hp' => v_move (ov rfl)) ?_
              obtain ⟨y4, h_y4, h⟩ := bnd h
              refine D_read 7 _ rfl (by kernel_rfl) rfl rfl rfl ExtW.refl (fun hp' hx => v_call (ok_ref5_Sorted h_y4) (.cons (ov rfl) (.b rfl) <| .nil)) ?_
              refine D_free 8 _ rfl (by kernel_rfl) rfl rfl (fun hp' => v_move (ov rfl)) ?_
              refine D_read 9 _ rfl (by kernel_rfl) rfl rfl rfl ExtW.refl (fun hp' hx => v_len (slv_sl (ov rfl) tZ_3) tL33 (len_map _ _)) ?_
              refine D_free 10 _ rfl (by kernel_rfl) rfl rfl (fun hp' => v_sub (ov rfl) (ov rfl) rfl) ?_
              obtain ⟨q4, h_q4, h⟩ := bnd h
              refine D_free 11 _ rfl (by kernel_rfl) rfl rfl (fun hp' => v_quoG (ov rfl) (ov rfl) h_q4) ?_
              obtain ⟨x4, h_x4, h⟩ := bnd h
              refine D_read 12 _ rfl (by kernel_rfl) rfl rfl rfl ExtW.refl (fun hp' hx => v_ixSG (ov rfl) (ov rfl) tL33 h_x4) ?_
              refine D_read 13 _ rfl (by kernel_rfl) rfl rfl rfl ExtW.refl (fun hp' hx => v_loadS_r (ov rfl) tS3 rfl) ?_
              obtain ⟨x5, h_x5, h⟩ := bnd h
              refine D_read 14 _ rfl (by kernel_rfl) rfl rfl rfl ExtW.refl (fun hp' hx => v_ixOG (ov rfl) (ov rfl) tL22 (hx.get rfl rfl) rfl h_x5) ?_
              refine D_read 15 _ rfl (by kernel_rfl) rfl rfl rfl ExtW.refl (fun hp' hx => v_fieldPR (ov rfl) (hx.get rfl rfl) rfl tF69_1) ?_
              refine D_one 16 _ _ rfl (by kernel_rfl) rfl rfl (fun h => by cases h) (fun h => by cases h) (w_storeR (u' := (api_Sample.mk x5.At x4 x5.Mark)) (ov rfl) (ov rfl) (cells_scal tS3) rfl rfl h_x5 rfl (cell1_all rfl) rfl) ?_
              refine D_done (by kernel_rfl) ?_
              refine T_keep (kc 1 rfl <| kc 2 rfl <| kc 4 rfl <| kc 7 rfl <| kc 8 rfl <| kc 9 rfl <| kn) rfl ?_
              refine T_reg ?_
              refine R_q _ rfl (v_move (ov rfl)) ?_
              refine R_q _ rfl (v_add (ov rfl) (ov rfl) rfl) ?_
              refine R_q _ rfl (v_assign (ov rfl)) ?_
              refine R_nil ?_
              exact ⟨((Samples2.set x3.toNat (api_Sample.mk x5.At x4 x5.Mark)), (i64 (i + 1))), h, Ent.sel [some 0, some 1, some 2] (sd 1 rfl rfl <| sd 2 rfl rfl <| sr 4 rfl (.ptr _ _ _ rfl) <| sd 7 rfl rfl <| sr 8 rfl (.ptr _ _ _ rfl) <| sd 9 rfl rfl <| sn) (.cons rfl (ro1 (by exact tZ_24.symm) (rld rfl)) <| .cons rfl (ro1 (by exact tZ_24.symm) (rlc (.dat rfl) <| rlc (ownE (Eq.symm ((List.length_set ..).trans rfl)) rfl) <| rln)) <| .cons rfl (roM D69) <| .nil) rfl rfl⟩
          · skip
            refine T_exit ?_
            rw [lx h] at ho1
            replace h := ho1
            exact ⟨Samples2, h, Ent.sel [some 0, some 1, some 2] (sr 4 rfl (.ptr _ _ _ rfl) <| sr 8 rfl (.ptr _ _ _ rfl) <| sn) (.cons rfl (ro1 (by exact tZ_24.symm) (rld rfl)) <| .cons rfl (ro1 (by exact tZ_24.symm) (rlc (.dat rfl) <| rlc (.own _ rfl) <| rln)) <| .cons rfl (roM D69) <| .nil) rfl rfl⟩
        · skip
          obtain ⟨Samples, rfl⟩ : ∃ x, x = j := ⟨_, rfl⟩
          replace h := t1i h
          refine t1T ?_
          refine T_seq (T_reg ?_)
          refine R_q _ rfl (v_loadA (ov rfl) rfl rfl rfl tA24 rfl rfl) ?_
          refine R_w _ _ rfl (w_store (ov rfl) (ov rfl) (cells_agg tA24 rfl) rfl rfl rfl (Nat.le_of_ble_eq_true rfl) (cell1_all rfl) rfl) ?_
          refine R_q _ rfl (v_assign (ov rfl)) ?_
          refine R_nil ?_
          obtain rfl := rt (v := ((api_Series.mk s.Den Samples), 0)) h
          refine T_ret (retq ?_ (.two (.agg rfl rfl rfl rfl tA24 rfl rfl (.cons (Dat.view (.b rfl)) <| .cons (View.ownM rfl rfl D69) <| .nil)) (.tmp rfl (Dat.view (.b rfl)))))
          rfl

theorem ok_series_sorted_int_o {l : List Int} {r : (List Int)} (h : series_sorted_int l = some r) :
    GSpec Tryd.prog gl0 66 [.sl 3 (List.map R3 l)] [] (.own 0 r.length) [some ⟨3, List.map R3 r⟩] := by
  unfold series_sorted_int at h
  replace h := bnd0 h
  refine gspec_of (by kernel_rfl) Tryd.func66 rfl rfl ?_
  intro w0 A W φ0
  refine T_seq (T_reg ?_)
  refine R_q _ rfl (v_assign (ov rfl)) ?_
  refine R_nil ?_
  refine T_keep (kc 0 rfl <| kn) rfl ?_
  refine T_seq (T_reg ?_)
  refine R_q _ rfl (v_move (ov rfl)) ?_
  obtain ⟨y, h_y, h⟩ := bnd h
  refine R_w _ _ rfl (w_callG [] (ok_clone3_o h_y) (.cons (ov rfl) (.dat rfl) <| .nil) (.nil) rfl (.lent 0 (.inr ⟨Nat.le_of_ble_eq_true rfl, rfl⟩) rfl (roM D3) <| .nil) rfl rfl (.own _ (.inr ⟨Nat.le_of_ble_eq_true rfl, rfl⟩))) ?_
  refine R_q _ rfl (v_assign (ov rfl)) ?_
  refine R_nil ?_
  refine T_keep (kc 0 rfl <| kn) rfl ?_
  refine T_seq (T_reg ?_)
  refine R_q _ rfl (v_move (ov rfl)) ?_
  obtain ⟨y2, h_y2, h⟩ := bnd h
  refine R_w _ _ rfl (w_callG [0] (ok_sortIL h_y2) (.cons (ov rfl) (.own _ rfl) <| .nil) (.cons rfl (roM D3) <| .nil) rfl (.lent 0 (.inl rfl) rfl (roM D3) <| .nil) rfl rfl (rTup (rld rfl))) ?_
  refine R_nil ?_
  refine T_keep (kc 0 rfl <| kn) rfl ?_
  refine T_seq (T_reg ?_)
  refine R_q _ rfl (v_move (ov rfl)) ?_
  refine R_q _ rfl (v_assign (ov rfl)) ?_
  refine R_nil ?_
  obtain rfl := rt (v := y2) h
  refine T_ret ?_
  exact retg [some 0] rfl (.cons (.tmp rfl) <| .nil) (.cons rfl (roM D3) <| .nil) rfl rfl (ownE (Eq.symm (ln_sortI h_y2)) rfl)

theorem ok_series_Range {s : api_Series} {r : Int × Int × Int} (h : series_Range s = some r) :
    CSpec Tryd.prog gl0 29 [.agg [.int .i64 s.Den, .sl 69 (List.map R69 s.Samples)]] (.tuple [.int .i64 r.1, .int .i64 r.2.1, .int .i64 r.2.2]) := by
  unfold series_Range at h
  replace h := bnd0 h
  refine spec_of (by kernel_rfl) Tryd.func29 rfl rfl ?_
  intro w0 A
  refine T_seq (T_reg ?_)
  refine R_q _ rfl (v_boxD (cva (ov rfl)) rfl tZ_24 rfl) ?_
  refine R_q _ rfl (v_assign (ov rfl)) ?_
  refine R_q _ rfl (v_assign (ov rfl)) ?_
  refine R_q _ rfl (v_assign (ov rfl)) ?_
  refine R_nil ?_
  refine T_seq ?_
  refine T_keep (kc 1 rfl <| kn) rfl ?_
  refine T_seq (T_reg ?_)
  refine R_q _ rfl (v_loadA_r (ov rfl) tA24 rfl rfl) ?_
  obtain ⟨y, h_y, h⟩ := bnd h
  refine R_q _ rfl (v_call (ok_series_Check h_y) (.cons (ov rfl) (.aggB rfl) <| .nil)) ?_
  refine R_q _ rfl (v_assign (ov rfl)) ?_
  refine R_nil ?_
  refine T_keep (kc 1 rfl <| kc 5 rfl <| kn) rfl ?_
  refine T_seq (T_reg ?_)
  refine R_q _ rfl (v_move (ov rfl)) ?_
  refine R_q _ rfl (v_neq (ov rfl) (ov rfl)) ?_
  refine R_nil ?_
  refine T_keep (kc 1 rfl <| kc 5 rfl <| kc 12 rfl <| kn) rfl ?_
  refine T_if h rfl (fun b12 h => ?_) (fun b12 h => ?_)
  · skip
    refine T_keep (kc 5 rfl <| kn) rfl ?_
    refine T_seq (T_reg ?_)
    refine R_q _ rfl (v_move (ov rfl)) ?_
    refine R_q _ rfl (v_assign (ov rfl)) ?_
    refine R_q _ rfl (v_assign (ov rfl)) ?_
    refine R_q _ rfl (v_assign (ov rfl)) ?_
    refine R_nil ?_
    obtain rfl := rt (v := (0, 0, y)) h
    refine T_ret (retq ?_ (.three (.tmp rfl (Dat.view (.b rfl))) (.tmp rfl (Dat.view (.b rfl))) (.tmp rfl (Dat.view (.b rfl)))))
    rfl
  · skip
    refine T_skip ?_
    refine T_keep (kc 1 rfl <| kn) rfl ?_
    refine T_seq (T_reg ?_)
    refine R_q _ rfl (v_assign (ov rfl)) ?_
    refine R_nil ?_
    refine T_joinG id (t1 fun l => ⟨[(6, .own 0 l.length)], [some ⟨3, List.map R3 l⟩]⟩) h (fun h => ?_) (fun j h => ?_)
    · skip
      refine T_seq (T_reg ?_)
      refine R_q _ rfl (v_loadA_r (ov rfl) tA24 rfl rfl) ?_
      obtain ⟨y2, h_y2, h⟩ := bnd h
      refine R_q _ rfl (v_call (ok_series_solids h_y2) (.cons (ov rfl) (.aggB rfl) <| .nil)) ?_
      refine R_q _ rfl (v_len (slv_sl (ov rfl) tZ_3) tL33 (len_map _ _)) ?_
      refine R_q _ rfl (v_move (ov rfl)) ?_
      refine R_nil ?_
      refine T_block ?_
      obtain ⟨r1, hl1, ho1⟩ := bndL h
      refine T_loopG _ (t2 fun l2 i => ⟨[(1, .rp [.int .i64 s.Den, .sl 69 (List.map R69 s.Samples)] 0), (6, .own 0 l2.length), (15, .sl 3 (List.map R3 y2)), (16, .int .i64 (y2.length : Int)), (17, .int .i64 i)], [some ⟨3, List.map R3 l2⟩]⟩) _ hl1 (Ent.sel [none] (sd 1 rfl rfl <| sr 6 rfl (.row rfl) <| sd 15 rfl rfl <| sd 16 rfl rfl <| sd 17 rfl rfl <| sn) (.row 3 <| .nil) rfl rfl) (fun n1 s1 h => ?_)
      obtain ⟨l2, i⟩ := s1
      replace h := t2i h
      refine t2T ?_
      unfold series_Range_L1 at h
      refine T_seq (T_reg ?_)
      refine R_q _ rfl (v_lss (ov rfl) (ov rfl)) ?_
      refine R_nil ?_
      refine T_seq ?_
      refine T_if h rfl (fun b18 h => ?_) (fun b18 h => ?_)
      · skip
        refine T_skip ?_
        refine T_seq ?_
        refine T_block ?_
        refine T_keep (kc 1 rfl <| kc 6 rfl <| kc 15 rfl <| kc 16 rfl <| kc 17 rfl <| kn) rfl ?_
        refine T_seq (T_reg ?_)
        obtain ⟨x, h_x, h⟩ := bnd h
        refine R_q _ rfl (v_ixSG (ov rfl) (ov rfl) tL33 h_x) ?_
        refine R_q _ rfl (v_loadS_r (ov rfl) tS3 rfl) ?_
        refine R_q _ rfl (v_assign (ov rfl)) ?_
        refine R_nil ?_
        refine T_keep (kc 1 rfl <| kc 6 rfl <| kc 8 rfl <| kc 15 rfl <| kc 16 rfl <| kc 17 rfl <| kn) rfl ?_
        refine T_reg ?_
        refine R_q _ rfl (v_move (ov rfl)) ?_
        refine R_q _ rfl (v_fieldR (ov rfl) tF24_1) ?_
        refine R_q _ rfl (v_loadS_r (ov rfl) tS22 rfl) ?_
        refine R_q _ rfl (v_move (ov rfl)) ?_
        obtain ⟨x2, h_x2, h⟩ := bnd h
        refine R_q _ rfl (v_ixSG (ov rfl) (ov rfl) tL22 h_x2) ?_
        refine R_q _ rfl (v_fieldR (ov rfl) tF69_1) ?_
        refine R_q _ rfl (v_loadS_r (ov rfl) tS3 rfl) ?_
        refine R_q (.sl 3 (List.map R3 ([x2.N] : List Int))) rfl (v_lit tL33 (.cons (cvs (ov rfl) (cell1_b rfl)) rfl (.cons (.b rfl) .nil) <| .nil) rfl rfl) ?_
        obtain ⟨l3, h_l3, h⟩ := bnd h
        refine R_w _ _ rfl (w_appendG (ov rfl) (slv_sl (ov rfl) tZ_3) tL33 rfl rfl rfl (fun _ => cell1_all rfl) rfl h_l3) ?_
        refine R_q _ rfl (v_assign (ov rfl)) ?_
        refine R_nil ?_
        refine T_keep (kc 1 rfl <| kc 6 rfl <| kc 15 rfl <| kc 16 rfl <| kc 17 rfl <| kn) rfl ?_
        refine T_reg ?_
        refine R_q _ rfl (v_add (ov rfl) (ov rfl) rfl) ?_
        refine R_q _ rfl (v_move (ov rfl)) ?_
        refine R_nil ?_
        exact ⟨(l3, (i64 (i + 1))), h, Ent.sel [some 0] (sd 1 rfl rfl <| sr 6 rfl (.own _ rfl) <| sd 15 rfl rfl <| sd 16 rfl rfl <| sd 17 rfl rfl <| sn) (.cons rfl (roM D3) <| .nil) rfl rfl⟩
      · skip
        refine T_exit ?_
        rw [lx h] at ho1
        replace h := ho1
        exact ⟨l2, h, Ent.sel [some 0] (sr 6 rfl (.own _ rfl) <| sn) (.cons rfl (roM D3) <| .nil) rfl rfl⟩
    · skip
      obtain ⟨l, rfl⟩ : ∃ x, x = j := ⟨_, rfl⟩
      replace h := t1i h
      refine t1T ?_
      refine T_seq ?_
      refine T_seq (T_reg ?_)
      refine R_q _ rfl (v_move (ov rfl)) ?_
      refine R_q _ rfl (v_lenO (ov rfl) rfl rfl tL33) ?_
      refine R_q _ rfl (v_eql (ov rfl) (ov rfl)) ?_
      refine R_nil ?_
      refine T_keep (kc 6 rfl <| kc 33 rfl <| kn) rfl ?_
      refine T_if h rfl (fun b33 h => ?_) (fun b33 h => ?_)
      · skip
        refine T_keep (kn) rfl ?_
        refine T_seq (T_reg ?_)
        refine R_q _ rfl (v_assign (ov rfl)) ?_
        refine R_q _ rfl (v_assign (ov rfl)) ?_
        refine R_q _ rfl (v_assign (ov rfl)) ?_
        refine R_nil ?_
        obtain rfl := rt (v := (0, 0, 13)) h
        refine T_ret (retq ?_ (.three (.tmp rfl (Dat.view (.b rfl))) (.tmp rfl (Dat.view (.b rfl))) (.tmp rfl (Dat.view (.b rfl)))))
        rfl
      · skip
        refine T_skip ?_
        refine T_keep (kc 6 rfl <| kn) rfl ?_
        refine T_seq (T_reg ?_)
        refine R_q _ rfl (v_move (ov rfl)) ?_
        obtain ⟨y3, h_y3, h⟩ := bnd h
        refine R_ent (Ent.sel [none] (sr 6 rfl (frzM rfl rfl rfl D3) <| sr 34 rfl (frzM rfl rfl rfl D3) <| sn) (.row 3 <| .nil) rfl rfl) ?_
        refine R_w _ _ rfl (w_callG [] (ok_series_sorted_int_o h_y3) (.cons (ov rfl) (.dat rfl) <| .nil) (.nil) rfl (.keep rfl rfl <| .lent 0 (.inr ⟨Nat.le_of_ble_eq_true rfl, rfl⟩) rfl (roM D3) <| .nil) rfl rfl (.own _ (.inr ⟨Nat.le_of_ble_eq_true rfl, rfl⟩))) ?_
        refine R_q _ rfl (v_assign (ov rfl)) ?_
        refine R_nil ?_
        refine T_keep (kc 6 rfl <| kn) rfl ?_
        refine T_seq (T_draw (cw := md0) (by kernel_rfl) ?_)
        refine D_free 0 _ rfl (by kernel_rfl) rfl rfl (fun hp' => v_move (ov rfl)) ?_
        obtain ⟨x3, h_x3, h⟩ := bnd h
        refine D_read 1 _ rfl (by kernel_rfl) rfl rfl rfl ExtW.refl (fun hp' hx => v_ixOG (ov rfl) (ov rfl) tL33 (hx.get rfl rfl) rfl h_x3) ?_
        refine D_read 2 _ rfl (by kernel_rfl) rfl rfl rfl ExtW.refl (fun hp' hx => v_loadSR (ov rfl) (hx.get rfl rfl) rfl h_x3 tS3 rfl) ?_
        refine D_free 3 _ rfl (by kernel_rfl) rfl rfl (fun hp' => v_move (ov rfl)) ?_
        refine D_free 4 _ rfl (by kernel_rfl) rfl rfl (fun hp' => v_move (ov rfl)) ?_
        refine D_read 5 _ rfl (by kernel_rfl) rfl rfl rfl ExtW.refl (fun hp' hx => v_lenO (ov rfl) (hx.get rfl rfl) rfl tL33) ?_
        refine D_free 6 _ rfl (by kernel_rfl) rfl rfl (fun hp' => v_sub (ov rfl) (ov rfl) rfl) ?_
        obtain ⟨x4, h_x4, h⟩ := bnd h
        refine D_read 7 _ rfl (by kernel_rfl) rfl rfl rfl ExtW.refl (fun hp' hx => v_ixOG (ov rfl) (ov rfl) tL33 (hx.get rfl rfl) rfl h_x4) ?_
        refine D_read 8 _ rfl (by kernel_rfl) rfl rfl rfl ExtW.refl (fun hp' hx => v_loadSR (ov rfl) (hx.get rfl rfl) rfl h_x4 tS3 rfl) ?_
        refine D_free 9 _ rfl (by kernel_rfl) rfl rfl (fun hp' => v_assign (ov rfl)) ?_
        refine D_free 10 _ rfl (by kernel_rfl) rfl rfl (fun hp' => v_assign (ov rfl)) ?_
        refine D_free 11 _ rfl (by kernel_rfl) rfl rfl (fun hp' => v_assign (ov rfl)) ?_
        refine D_done (by kernel_rfl) ?_
        obtain rfl := rt (v := (x3, x4, 0)) h
        refine T_ret (retq ?_ (.three (.tmp rfl (Dat.view (.b rfl))) (.tmp rfl (Dat.view (.b rfl))) (.tmp rfl (Dat.view (.b rfl)))))
        rfl

theorem ok_slices_BinarySearchFunc_api_Sample_api_Sample_int {x : List api_Sample} {target : Int} {cmp : api_Sample → Int → Option Int} {r : Int × Bool} {cmp_f : FuncId} {cmp_c : List AV} (cmp_d : cmp_c.all datB = true) (cmp_h : ∀ (z0 : api_Sample) (z1 : Int) z, cmp z0 z1 = some z → CSpec Tryd.prog gl0 cmp_f ([.agg [.int .i64 z0.At, .int .i64 z0.N, .int .i64 z0.Mark], .int .i64 z1] ++ cmp_c) (.int .i64 z)) (h : slices_BinarySearchFunc_api_Sample_api_Sample_int x target cmp = some r) :
    CSpec Tryd.prog gl0 84 [.sl 69 (List.map R69 x), .int .i64 target, .fn cmp_f cmp_c] (.tuple [.int .i64 r.1, .bool r.2]) := by
  unfold slices_BinarySearchFunc_api_Sample_api_Sample_int at h
  replace h := bnd0 h
  refine spec_of (by kernel_rfl) Tryd.func84 rfl rfl ?_
  intro w0 A
  refine T_seq (T_reg ?_)
  refine R_q _ rfl (v_assign (ov rfl)) ?_
  refine R_q _ rfl (v_assign (ov rfl)) ?_
  refine R_nil ?_
  refine T_keep (kc 0 rfl <| kc 1 rfl <| kc 2 rfl <| kn) rfl ?_
  refine T_seq (T_reg ?_)
  refine R_q _ rfl (v_move (ov rfl)) ?_
  refine R_q _ rfl (v_len (slv_sl (ov rfl) tZ_69) tL22 (len_map _ _)) ?_
  refine R_q _ rfl (v_assign (ov rfl)) ?_
  refine R_nil ?_
  refine T_keep (kc 0 rfl <| kc 1 rfl <| kc 2 rfl <| kc 8 rfl <| kn) rfl ?_
  refine T_seq (T_reg ?_)
  refine R_q _ rfl (v_move (ov rfl)) ?_
  refine R_q _ rfl (v_assign (ov rfl)) ?_
  refine R_q _ rfl (v_assign (ov rfl)) ?_
  refine R_nil ?_
  refine T_joinG id (t1 fun i => ⟨[(0, .sl 69 (List.map R69 x)), (1, .int .i64 target), (2, .fn cmp_f cmp_c), (8, .int .i64 (x.length : Int)), (9, .int .i64 i)], []⟩) h (fun h => ?_) (fun j h => ?_)
  · skip
    refine T_block ?_
    obtain ⟨r1, hl1, ho1⟩ := bndL h
    refine T_loopG _ (t2 fun i2 j => ⟨[(0, .sl 69 (List.map R69 x)), (1, .int .i64 target), (2, .fn cmp_f cmp_c), (8, .int .i64 (x.length : Int)), (9, .int .i64 i2), (10, .int .i64 j)], []⟩) _ hl1 (Ent.sel [] (sd 0 rfl rfl <| sd 1 rfl rfl <| sr 2 rfl (rFn (rld cmp_d)) <| sd 8 rfl rfl <| sd 9 rfl rfl <| sd 10 rfl rfl <| sn) (.nil) rfl rfl) (fun n1 s1 h => ?_)
    obtain ⟨i2, j⟩ := s1
    replace h := t2i h
    refine t2T ?_
    unfold slices_BinarySearchFunc_api_Sample_api_Sample_int_L1 at h
    refine T_seq ?_
    refine T_seq (T_reg ?_)
    refine R_q _ rfl (v_move (ov rfl)) ?_
    refine R_q _ rfl (v_move (ov rfl)) ?_
    refine R_q _ rfl (v_lss (ov rfl) (ov rfl)) ?_
    refine R_nil ?_
    refine T_keep (kc 0 rfl <| kc 1 rfl <| kc 2 rfl <| kc 8 rfl <| kc 9 rfl <| kc 10 rfl <| kc 17 rfl <| kn) rfl ?_
    refine T_if h rfl (fun b17 h => ?_) (fun b17 h => ?_)
    · skip
      refine T_skip ?_
      refine T_block ?_
      refine T_keep (kc 0 rfl <| kc 1 rfl <| kc 2 rfl <| kc 8 rfl <| kc 9 rfl <| kc 10 rfl <| kn) rfl ?_
      refine T_seq (T_reg ?_)
      refine R_q _ rfl (v_move (ov rfl)) ?_
      refine R_q _ rfl (v_move (ov rfl)) ?_
      refine R_q _ rfl (v_add (ov rfl) (ov rfl) rfl) ?_
      refine R_q _ rfl (v_conv (ov rfl) tI3 tI119 rfl) ?_
      obtain ⟨q, h_q, h⟩ := bnd h
      refine R_q _ rfl (v_shrG (ov rfl) (ov rfl) h_q) ?_
      refine R_q _ rfl (v_conv (ov rfl) tI119 tI3 rfl) ?_
      refine R_q _ rfl (v_assign (ov rfl)) ?_
      refine R_nil ?_
      refine T_keep (kc 0 rfl <| kc 1 rfl <| kc 2 rfl <| kc 8 rfl <| kc 9 rfl <| kc 10 rfl <| kc 11 rfl <| kn) rfl ?_
      refine T_seq (T_reg ?_)
      refine R_q _ rfl (v_move (ov rfl)) ?_
      refine R_q _ rfl (v_move (ov rfl)) ?_
      refine R_q _ rfl (v_move (ov rfl)) ?_
      obtain ⟨x2, h_x2, h⟩ := bnd h
      refine R_q _ rfl (v_ixSG (ov rfl) (ov rfl) tL22 h_x2) ?_
      refine R_q _ rfl (v_loadA_r (ov rfl) tA69 rfl rfl) ?_
      refine R_q _ rfl (v_move (ov rfl)) ?_
      obtain ⟨y, h_y, h⟩ := bnd h
      refine R_q _ rfl (v_callC (ov rfl) cmp_d (cmp_h _ _ _ h_y) (.cons (ov rfl) (.aggB rfl) <| .cons (ov rfl) (.b rfl) <| .nil)) ?_
      refine R_q _ rfl (v_lss (ov rfl) (ov rfl)) ?_
      refine R_nil ?_
      refine T_keep (kc 0 rfl <| kc 1 rfl <| kc 2 rfl <| kc 8 rfl <| kc 9 rfl <| kc 10 rfl <| kc 11 rfl <| kc 31 rfl <| kn) rfl ?_
      refine T_if h rfl (fun b31 h => ?_) (fun b31 h => ?_)
      · skip
        refine T_keep (kc 0 rfl <| kc 1 rfl <| kc 2 rfl <| kc 8 rfl <| kc 9 rfl <| kc 10 rfl <| kc 11 rfl <| kn) rfl ?_
        refine T_reg ?_
        refine R_q _ rfl (v_move (ov rfl)) ?_
        refine R_q _ rfl (v_add (ov rfl) (ov rfl) rfl) ?_
        refine R_q _ rfl (v_assign (ov rfl)) ?_
        refine R_nil ?_
        exact ⟨((i64 ((i64 q) + 1)), j), h, Ent.sel [] (sd 0 rfl rfl <| sd 1 rfl rfl <| sr 2 rfl (rFn (rld cmp_d)) <| sd 8 rfl rfl <| sd 9 rfl rfl <| sd 10 rfl rfl <| sn) (.nil) rfl rfl⟩
      · skip
        refine T_keep (kc 0 rfl <| kc 1 rfl <| kc 2 rfl <| kc 8 rfl <| kc 9 rfl <| kc 10 rfl <| kc 11 rfl <| kn) rfl ?_
        refine T_reg ?_
        refine R_q _ rfl (v_move (ov rfl)) ?_
        refine R_q _ rfl (v_assign (ov rfl)) ?_
        refine R_nil ?_
        exact ⟨(i2, (i64 q)), h, Ent.sel [] (sd 0 rfl rfl <| sd 1 rfl rfl <| sr 2 rfl (rFn (rld cmp_d)) <| sd 8 rfl rfl <| sd 9 rfl rfl <| sd 10 rfl rfl <| sn) (.nil) rfl rfl⟩
    · skip
      refine T_exit ?_
      rw [lx h] at ho1
      replace h := ho1
      exact ⟨i2, h, Ent.sel [] (sd 0 rfl rfl <| sd 1 rfl rfl <| sr 2 rfl (rFn (rld cmp_d)) <| sd 8 rfl rfl <| sd 9 rfl rfl <| sn) (.nil) rfl rfl⟩
  · skip
    obtain ⟨i, rfl⟩ : ∃ x, x = j := ⟨_, rfl⟩
    replace h := t1i h
    refine t1T ?_
    refine T_seq (T_reg ?_)
    refine R_q _ rfl (v_move (ov rfl)) ?_
    refine R_q _ rfl (v_move (ov rfl)) ?_
    refine R_q _ rfl (v_move (ov rfl)) ?_
    refine R_q _ rfl (v_lss (ov rfl) (ov rfl)) ?_
    refine R_q _ rfl (v_move (ov rfl)) ?_
    refine R_q _ rfl (.guarded ((decide (i < (x.length : Int))) == true) rfl rfl rfl rfl fun h => v_move (ov rfl)) ?_
    refine R_q _ rfl (.guarded ((decide (i < (x.length : Int))) == true) rfl rfl rfl rfl fun h => v_move (ov rfl)) ?_
    refine R_q _ rfl (.guarded ((decide (i < (x.length : Int))) == true) rfl rfl rfl rfl fun h => v_move (ov rfl)) ?_
    obtain ⟨x3, h_x3, h⟩ := bnd h
    refine R_q _ rfl (.guarded ((decide (i < (x.length : Int))) == true) rfl rfl rfl rfl fun h => v_ixSG (ow rfl h) (ow rfl h) tL22 (gdT h_x3 h)) ?_
    refine R_q _ rfl (.guarded ((decide (i < (x.length : Int))) == true) rfl rfl rfl rfl fun h => v_loadA_r (ow rfl h) tA69 rfl rfl) ?_
    refine R_q _ rfl (.guarded ((decide (i < (x.length : Int))) == true) rfl rfl rfl rfl fun h => v_move (ov rfl)) ?_
    obtain ⟨y2, h_y2, h⟩ := bnd h
    refine R_q _ rfl (.guarded ((decide (i < (x.length : Int))) == true) rfl rfl rfl rfl fun h => v_callC (ow rfl h) cmp_d (cmp_h _ _ _ (gdT h_y2 h)) (.cons (ow rfl h) (.aggB rfl) <| .cons (ow rfl h) (.b rfl) <| .nil)) ?_
    refine R_q _ rfl (.guarded ((decide (i < (x.length : Int))) == true) rfl rfl rfl rfl fun h => v_eql (ow rfl h) (ov rfl)) ?_
    refine R_q _ rfl (v_and (ov rfl) (fun hp => ow rfl (gT hp))) ?_
    refine R_q _ rfl (v_assign (ov rfl)) ?_
    refine R_q _ rfl (v_assign (ov rfl)) ?_
    refine R_nil ?_
    obtain rfl := rt (v := (i, ((decide (i < (x.length : Int))) && (decide (y2 = 0))))) h
    refine T_ret (retq ?_ (.two (.tmp rfl (Dat.view (.b rfl))) (.tmp rfl (Dat.view (.b rfl)))))
    rfl

theorem ok_series_latest_1 {x : api_Sample} {at_ : Int} {r : Int} (h : series_latest_1 x at_ = some r) :
    CSpec Tryd.prog gl0 85 [.agg [.int .i64 x.At, .int .i64 x.N, .int .i64 x.Mark], .int .i64 at_] (.int .i64 r) := by
  unfold series_latest_1 at h
  replace h := bnd0 h
  refine spec_of (by kernel_rfl) Tryd.func85 rfl rfl ?_
  intro w0 A
  refine T_seq (T_reg ?_)
  refine R_q _ rfl (v_boxD (cva (ov rfl)) rfl tZ_69 rfl) ?_
  refine R_q _ rfl (v_assign (ov rfl)) ?_
  refine R_nil ?_
  refine T_keep (kc 1 rfl <| kc 2 rfl <| kc 4 rfl <| kn) rfl ?_
  refine T_seq (T_reg ?_)
  refine R_q _ rfl (v_fieldR (ov rfl) tF69_0) ?_
  refine R_q _ rfl (v_loadS_r (ov rfl) tS3 rfl) ?_
  refine R_q _ rfl (v_move (ov rfl)) ?_
  refine R_q _ rfl (v_sub (ov rfl) (ov rfl) rfl) ?_
  refine R_q _ rfl (v_assign (ov rfl)) ?_
  refine R_nil ?_
  obtain rfl := rt (v := (i64 (x.At - at_))) h
  refine T_ret (retq ?_ (.one (.tmp rfl (Dat.view (.b rfl)))))
  rfl

theorem ok_series_latest {s : api_Series} {at_ : Int} {r : Int} (h : series_latest s at_ = some r) :
    CSpec Tryd.prog gl0 72 [.agg [.int .i64 s.Den, .sl 69 (List.map R69 s.Samples)], .int .i64 at_] (.int .i64 r) := by
  unfold series_latest at h
  replace h := bnd0 h
  refine spec_of (by kernel_rfl) Tryd.func72 rfl rfl ?_
  intro w0 A
  refine T_seq (T_reg ?_)
  refine R_q _ rfl (v_boxD (cva (ov rfl)) rfl tZ_24 rfl) ?_
  refine R_q _ rfl (v_assign (ov rfl)) ?_
  refine R_nil ?_
  refine T_keep (kc 1 rfl <| kc 2 rfl <| kn) rfl ?_
  refine T_seq (T_reg ?_)
  refine R_q _ rfl (v_fieldR (ov rfl) tF24_1) ?_
  refine R_q _ rfl (v_loadS_r (ov rfl) tS22 rfl) ?_
  refine R_q _ rfl (v_move (ov rfl)) ?_
  obtain ⟨y, h_y, h⟩ := bnd h
  refine R_q _ rfl (v_call (ok_slices_BinarySearchFunc_api_Sample_api_Sample_int rfl (fun z0 z1 _ hz => ok_series_latest_1 hz) h_y) (.cons (ov rfl) (.b rfl) <| .cons (ov rfl) (.b rfl) <| .cons (ov rfl) (.fn) <| .nil)) ?_
  refine R_q _ rfl (v_move (ov rfl)) ?_
  refine R_q _ rfl (v_extract (ov rfl) rfl) ?_
  refine R_q _ rfl (v_extract (ov rfl) rfl) ?_
  refine R_q _ rfl (v_assign (ov rfl)) ?_
  refine R_q _ rfl (v_assign (ov rfl)) ?_
  refine R_nil ?_
  refine T_seq ?_
  refine T_keep (kc 5 rfl <| kc 6 rfl <| kn) rfl ?_
  refine T_seq (T_reg ?_)
  refine R_q _ rfl (v_move (ov rfl)) ?_
  refine R_nil ?_
  refine T_keep (kc 5 rfl <| kc 14 rfl <| kn) rfl ?_
  refine T_if h rfl (fun b14 h => ?_) (fun b14 h => ?_)
  · skip
    refine T_keep (kc 5 rfl <| kn) rfl ?_
    refine T_seq (T_reg ?_)
    refine R_q _ rfl (v_move (ov rfl)) ?_
    refine R_q _ rfl (v_assign (ov rfl)) ?_
    refine R_nil ?_
    obtain rfl := rt (v := y.1) h
    refine T_ret (retq ?_ (.one (.tmp rfl (Dat.view (.b rfl)))))
    rfl
  · skip
    refine T_skip ?_
    refine T_keep (kc 5 rfl <| kn) rfl ?_
    refine T_seq (T_reg ?_)
    refine R_q _ rfl (v_move (ov rfl)) ?_
    refine R_q _ rfl (v_sub (ov rfl) (ov rfl) rfl) ?_
    refine R_q _ rfl (v_assign (ov rfl)) ?_
    refine R_nil ?_
    obtain rfl := rt (v := (i64 (y.1 - 1))) h
    refine T_ret (retq ?_ (.one (.tmp rfl (Dat.view (.b rfl)))))
    rfl

theorem ok_series_hold {s : api_Series} {at_ : Int} {long : Int} {r : api_Sample × Bool} (h : series_hold s at_ long = some r) :
    CSpec Tryd.prog gl0 41 [.agg [.int .i64 s.Den, .sl 69 (List.map R69 s.Samples)], .int .i64 at_, .int .i64 long] (.tuple [.agg [.int .i64 r.1.At, .int .i64 r.1.N, .int .i64 r.1.Mark], .bool r.2]) := by
  unfold series_hold at h
  replace h := bnd0 h
  refine spec_of (by kernel_rfl) Tryd.func41 rfl rfl ?_
  intro w0 A
  refine T_seq (T_reg ?_)
  refine R_q _ rfl (v_boxD (cva (ov rfl)) rfl tZ_24 rfl) ?_
  refine R_w _ _ rfl (w_alloc (row := [_, _, _]) 0 rfl tZ69 rfl tZ_69) ?_
  refine R_q _ rfl (v_assign (ov rfl)) ?_
  refine R_nil ?_
  refine T_keep (kc 1 rfl <| kc 2 rfl <| kc 3 rfl <| kc 6 rfl <| kn) rfl ?_
  refine T_seq (T_reg ?_)
  refine R_q _ rfl (v_loadA_r (ov rfl) tA24 rfl rfl) ?_
  refine R_q _ rfl (v_move (ov rfl)) ?_
  obtain ⟨y, h_y, h⟩ := bnd h
  refine R_q _ rfl (v_call (ok_series_latest h_y) (.cons (ov rfl) (.aggB rfl) <| .cons (ov rfl) (.b rfl) <| .nil)) ?_
  refine R_q _ rfl (v_assign (ov rfl)) ?_
  refine R_nil ?_
  refine T_seq ?_
  refine T_keep (kc 1 rfl <| kc 2 rfl <| kc 3 rfl <| kc 6 rfl <| kc 8 rfl <| kn) rfl ?_
  refine T_seq (T_reg ?_)
  refine R_q _ rfl (v_move (ov rfl)) ?_
  refine R_q _ rfl (v_lss (ov rfl) (ov rfl)) ?_
  refine R_q _ rfl (v_move (ov rfl)) ?_
  refine R_q _ rfl (.guarded ((decide (y < 0)) == false) rfl rfl rfl rfl fun h => v_fieldR (ov rfl) tF24_1) ?_
  refine R_q _ rfl (.guarded ((decide (y < 0)) == false) rfl rfl rfl rfl fun h => v_loadS_r (ow rfl h) tS22 rfl) ?_
  refine R_q _ rfl (.guarded ((decide (y < 0)) == false) rfl rfl rfl rfl fun h => v_move (ov rfl)) ?_
  obtain ⟨x, h_x, h⟩ := bnd h
  refine R_q _ rfl (.guarded ((decide (y < 0)) == false) rfl rfl rfl rfl fun h => v_ixSG (ow rfl h) (ow rfl h) tL22 (gdT h_x h)) ?_
  refine R_q _ rfl (.guarded ((decide (y < 0)) == false) rfl rfl rfl rfl fun h => v_loadA_r (ow rfl h) tA69 rfl rfl) ?_
  obtain ⟨y2, h_y2, h⟩ := bnd h
  refine R_q _ rfl (.guarded ((decide (y < 0)) == false) rfl rfl rfl rfl fun h => v_call (ok_series_solid (gdT h_y2 h)) (.cons (ow rfl h) (.aggB rfl) <| .nil)) ?_
  refine R_q _ rfl (.guarded ((decide (y < 0)) == false) rfl rfl rfl rfl fun h => v_not (ow rfl h)) ?_
  refine R_q _ rfl (v_or (ov rfl) (fun hp => ow rfl (gF hp))) ?_
  refine R_q _ rfl (v_move (ov rfl)) ?_
  refine R_q _ rfl (.guarded (((decide (y < 0)) || (!y2)) == false) rfl rfl rfl rfl fun h => v_move (ov rfl)) ?_
  refine R_q _ rfl (.guarded (((decide (y < 0)) || (!y2)) == false) rfl rfl rfl rfl fun h => v_fieldR (ov rfl) tF24_1) ?_
  refine R_q _ rfl (.guarded (((decide (y < 0)) || (!y2)) == false) rfl rfl rfl rfl fun h => v_loadS_r (ow rfl h) tS22 rfl) ?_
  refine R_q _ rfl (.guarded (((decide (y < 0)) || (!y2)) == false) rfl rfl rfl rfl fun h => v_move (ov rfl)) ?_
  obtain ⟨x2, h_x2, h⟩ := bnd h
  refine R_q _ rfl (.guarded (((decide (y < 0)) || (!y2)) == false) rfl rfl rfl rfl fun h => v_ixSG (ow rfl h) (ow rfl h) tL22 (gdT h_x2 h)) ?_
  refine R_q _ rfl (.guarded (((decide (y < 0)) || (!y2)) == false) rfl rfl rfl rfl fun h => v_fieldR (ow rfl h) tF69_0) ?_
  refine R_q _ rfl (.guarded (((decide (y < 0)) || (!y2)) == false) rfl rfl rfl rfl fun h => v_loadS_r (ow rfl h) tS3 rfl) ?_
  refine R_q _ rfl (.guarded (((decide (y < 0)) || (!y2)) == false) rfl rfl rfl rfl fun h => v_sub (ow rfl h) (ow rfl h) rfl) ?_
  refine R_q _ rfl (.guarded (((decide (y < 0)) || (!y2)) == false) rfl rfl rfl rfl fun h => v_move (ov rfl)) ?_
  refine R_q _ rfl (.guarded (((decide (y < 0)) || (!y2)) == false) rfl rfl rfl rfl fun h => v_gtr (ow rfl h) (ow rfl h)) ?_
  refine R_q _ rfl (v_or (ov rfl) (fun hp => ow rfl (gF hp))) ?_
  refine R_nil ?_
  refine T_keep (kc 3 rfl <| kc 6 rfl <| kc 8 rfl <| kc 34 rfl <| kn) rfl ?_
  refine T_if h rfl (fun b34 h => ?_) (fun b34 h => ?_)
  · skip
    refine T_keep (kc 6 rfl <| kn) rfl ?_
    refine T_seq (T_reg ?_)
    refine R_q _ rfl (v_build (ys := [_, _, _]) tPL69 tHA69 tZ69 (.nil) rfl) ?_
    refine R_w _ _ rfl (w_store (ov rfl) (ov rfl) (cells_agg tA69 rfl) rfl rfl rfl (Nat.le_of_ble_eq_true rfl) (cell1_all rfl) rfl) ?_
    refine R_q _ rfl (v_assign (ov rfl)) ?_
    refine R_nil ?_
    obtain rfl := rt (v := ((api_Sample.mk 0 0 0), false)) h
    refine T_ret (retq ?_ (.two (.agg rfl rfl rfl rfl tA69 rfl rfl (pwB rfl)) (.tmp rfl (Dat.view (.b rfl)))))
    rfl
  · skip
    refine T_skip ?_
    refine T_keep (kc 3 rfl <| kc 6 rfl <| kc 8 rfl <| kn) rfl ?_
    refine T_seq (T_reg ?_)
    refine R_q _ rfl (v_fieldR (ov rfl) tF24_1) ?_
    refine R_q _ rfl (v_loadS_r (ov rfl) tS22 rfl) ?_
    refine R_q _ rfl (v_move (ov rfl)) ?_
    obtain ⟨x3, h_x3, h⟩ := bnd h
    refine R_q _ rfl (v_ixSG (ov rfl) (ov rfl) tL22 h_x3) ?_
    refine R_q _ rfl (v_loadA_r (ov rfl) tA69 rfl rfl) ?_
    refine R_w _ _ rfl (w_store (ov rfl) (ov rfl) (cells_agg tA69 rfl) rfl rfl rfl (Nat.le_of_ble_eq_true rfl) (cell1_all rfl) rfl) ?_
    refine R_q _ rfl (v_assign (ov rfl)) ?_
    refine R_nil ?_
    obtain rfl := rt (v := (x3, true)) h
    refine T_ret (retq ?_ (.two (.agg rfl rfl rfl rfl tA69 rfl rfl (pwB rfl)) (.tmp rfl (Dat.view (.b rfl)))))
    rfl

theorem ok_series_Hold {s : api_Series} {at_ : Int} {long : Int} {r : api_Sample × Bool × Int} (h : series_Hold s at_ long = some r) :
    CSpec Tryd.prog gl0 44 [.agg [.int .i64 s.Den, .sl 69 (List.map R69 s.Samples)], .int .i64 at_, .int .i64 long] (.tuple [.agg [.int .i64 r.1.At, .int .i64 r.1.N, .int .i64 r.1.Mark], .bool r.2.1, .int .i64 r.2.2]) := by
  unfold series_Hold at h
  replace h := bnd0 h
  refine spec_of (by kernel_rfl) Tryd.func44 rfl rfl ?_
  intro w0 A
  refine T_seq (T_reg ?_)
  refine R_q _ rfl (v_boxD (cva (ov rfl)) rfl tZ_24 rfl) ?_
  refine R_w _ _ rfl (w_alloc (row := [_, _, _]) 0 rfl tZ69 rfl tZ_69) ?_
  refine R_q _ rfl (v_assign (ov rfl)) ?_
  refine R_q _ rfl (v_assign (ov rfl)) ?_
  refine R_nil ?_
  refine T_seq ?_
  refine T_keep (kc 1 rfl <| kc 2 rfl <| kc 3 rfl <| kc 6 rfl <| kn) rfl ?_
  refine T_seq (T_reg ?_)
  refine R_q _ rfl (v_loadA_r (ov rfl) tA24 rfl rfl) ?_
  obtain ⟨y, h_y, h⟩ := bnd h
  refine R_q _ rfl (v_call (ok_series_Check h_y) (.cons (ov rfl) (.aggB rfl) <| .nil)) ?_
  refine R_q _ rfl (v_assign (ov rfl)) ?_
  refine R_nil ?_
  refine T_keep (kc 1 rfl <| kc 2 rfl <| kc 3 rfl <| kc 6 rfl <| kc 9 rfl <| kn) rfl ?_
  refine T_seq (T_reg ?_)
  refine R_q _ rfl (v_move (ov rfl)) ?_
  refine R_q _ rfl (v_neq (ov rfl) (ov rfl)) ?_
  refine R_nil ?_
  refine T_keep (kc 1 rfl <| kc 2 rfl <| kc 3 rfl <| kc 6 rfl <| kc 9 rfl <| kc 15 rfl <| kn) rfl ?_
  refine T_if h rfl (fun b15 h => ?_) (fun b15 h => ?_)
  · skip
    refine T_keep (kc 6 rfl <| kc 9 rfl <| kn) rfl ?_
    refine T_seq (T_reg ?_)
    refine R_q _ rfl (v_build (ys := [_, _, _]) tPL69 tHA69 tZ69 (.nil) rfl) ?_
    refine R_q _ rfl (v_move (ov rfl)) ?_
    refine R_w _ _ rfl (w_store (ov rfl) (ov rfl) (cells_agg tA69 rfl) rfl rfl rfl (Nat.le_of_ble_eq_true rfl) (cell1_all rfl) rfl) ?_
    refine R_q _ rfl (v_assign (ov rfl)) ?_
    refine R_q _ rfl (v_assign (ov rfl)) ?_
    refine R_nil ?_
    obtain rfl := rt (v := ((api_Sample.mk 0 0 0), false, y)) h
    refine T_ret (retq ?_ (.three (.agg rfl rfl rfl rfl tA69 rfl rfl (pwB rfl)) (.tmp rfl (Dat.view (.b rfl))) (.tmp rfl (Dat.view (.b rfl)))))
    rfl
  · skip
    refine T_skip ?_
    refine T_seq ?_
    refine T_keep (kc 1 rfl <| kc 2 rfl <| kc 3 rfl <| kc 6 rfl <| kn) rfl ?_
    refine T_seq (T_reg ?_)
    refine R_q _ rfl (v_move (ov rfl)) ?_
    obtain ⟨y2, h_y2, h⟩ := bnd h
    refine R_q _ rfl (v_call (ok_series_within h_y2) (.cons (ov rfl) (.b rfl) <| .cons (ov rfl) (.b rfl) <| .cons (ov rfl) (.b rfl) <| .nil)) ?_
    refine R_q _ rfl (v_not (ov rfl)) ?_
    refine R_q _ rfl (v_move (ov rfl)) ?_
    refine R_q _ rfl (.guarded ((!y2) == false) rfl rfl rfl rfl fun h => v_move (ov rfl)) ?_
    obtain ⟨y3, h_y3, h⟩ := bnd h
    refine R_q _ rfl (.guarded ((!y2) == false) rfl rfl rfl rfl fun h => v_call (ok_series_within (gdT h_y3 h)) (.cons (ow rfl h) (.b rfl) <| .cons (ov rfl) (.b rfl) <| .cons (ov rfl) (.b rfl) <| .nil)) ?_
    refine R_q _ rfl (.guarded ((!y2) == false) rfl rfl rfl rfl fun h => v_not (ow rfl h)) ?_
    refine R_q _ rfl (v_or (ov rfl) (fun hp => ow rfl (gF hp))) ?_
    refine R_nil ?_
    refine T_keep (kc 1 rfl <| kc 2 rfl <| kc 3 rfl <| kc 6 rfl <| kc 25 rfl <| kn) rfl ?_
    refine T_if h rfl (fun b25 h => ?_) (fun b25 h => ?_)
    · skip
      refine T_keep (kc 6 rfl <| kn) rfl ?_
      refine T_seq (T_reg ?_)
      refine R_q _ rfl (v_build (ys := [_, _, _]) tPL69 tHA69 tZ69 (.nil) rfl) ?_
      refine R_w _ _ rfl (w_store (ov rfl) (ov rfl) (cells_agg tA69 rfl) rfl rfl rfl (Nat.le_of_ble_eq_true rfl) (cell1_all rfl) rfl) ?_
      refine R_q _ rfl (v_assign (ov rfl)) ?_
      refine R_q _ rfl (v_assign (ov rfl)) ?_
      refine R_nil ?_
      obtain rfl := rt (v := ((api_Sample.mk 0 0 0), false, 9)) h
      refine T_ret (retq ?_ (.three (.agg rfl rfl rfl rfl tA69 rfl rfl (pwB rfl)) (.tmp rfl (Dat.view (.b rfl))) (.tmp rfl (Dat.view (.b rfl)))))
      rfl
    · skip
      refine T_skip ?_
      refine T_keep (kc 1 rfl <| kc 2 rfl <| kc 3 rfl <| kc 6 rfl <| kn) rfl ?_
      refine T_seq (T_reg ?_)
      refine R_q _ rfl (v_loadA_r (ov rfl) tA24 rfl rfl) ?_
      refine R_q _ rfl (v_move (ov rfl)) ?_
      refine R_q _ rfl (v_move (ov rfl)) ?_
      obtain ⟨y4, h_y4, h⟩ := bnd h
      refine R_q _ rfl (v_call (ok_series_hold h_y4) (.cons (ov rfl) (.aggB rfl) <| .cons (ov rfl) (.b rfl) <| .cons (ov rfl) (.b rfl) <| .nil)) ?_
      refine R_q _ rfl (v_move (ov rfl)) ?_
      refine R_q _ rfl (v_extract (ov rfl) rfl) ?_
      refine R_q _ rfl (v_extract (ov rfl) rfl) ?_
      refine R_w _ _ rfl (w_alloc (row := [_, _, _]) 1 rfl tZ69 rfl tZ_69) ?_
      refine R_w _ _ rfl (w_store (ov rfl) (ov rfl) (cells_agg tA69 rfl) rfl rfl rfl (Nat.le_of_ble_eq_true rfl) (cell1_all rfl) rfl) ?_
      refine R_q _ rfl (v_assign (ov rfl)) ?_
      refine R_nil ?_
      refine T_keep (kc 6 rfl <| kc 10 rfl <| kc 11 rfl <| kn) rfl ?_
      refine T_seq (T_reg ?_)
      refine R_q _ rfl (v_loadA (ov rfl) rfl rfl rfl tA69 rfl rfl) ?_
      refine R_q _ rfl (v_move (ov rfl)) ?_
      refine R_w _ _ rfl (w_store (ov rfl) (ov rfl) (cells_agg tA69 rfl) rfl rfl rfl (Nat.le_of_ble_eq_true rfl) (cell1_all rfl) rfl) ?_
      refine R_q _ rfl (v_assign (ov rfl)) ?_
      refine R_q _ rfl (v_assign (ov rfl)) ?_
      refine R_nil ?_
      obtain rfl := rt (v := (y4.1, y4.2, 0)) h
      refine T_ret (retq ?_ (.three (.agg rfl rfl rfl rfl tA69 rfl rfl (pwB rfl)) (.tmp rfl (Dat.view (.b rfl))) (.tmp rfl (Dat.view (.b rfl)))))
      rfl

theorem ok_law5_holds  {r : Bool} (h : law5_holds  = some r) :
    CSpec Tryd.prog gl0 13 [] (.bool r) := by
  unfold law5_holds at h
  replace h := bnd0 h
  refine spec_of (by kernel_rfl) Tryd.func13 rfl rfl ?_
  intro w0 A
  refine T_seq (T_reg ?_)
  refine R_q _ rfl (v_assign (ov rfl)) ?_
  refine R_nil ?_
  refine T_keep (kn) rfl ?_
  refine T_seq (T_reg ?_)
  refine R_q _ rfl (v_build (ys := [_, _, _]) tPL69 tHA69 tZ69 (.cons (cvs (ov rfl) (cell1_b rfl)) <| .cons (cvs (ov rfl) (cell1_b rfl)) <| .cons (cvs (ov rfl) (cell1_b rfl)) <| .nil) rfl) ?_
  refine R_q (.sl 69 (List.map R69 ([(api_Sample.mk 5 7 4)] : List api_Sample))) rfl (v_lit tL22 (.cons (cva (ov rfl)) rfl (pwD rfl) <| .nil) rfl rfl) ?_
  refine R_q _ rfl (v_build (ys := [_, _]) tPL24 tHA24 tZ24 (.cons (cvs (ov rfl) (cell1_b rfl)) <| .cons (cvs (ov rfl) (cell1_b rfl)) <| .nil) rfl) ?_
  obtain ⟨y, h_y, h⟩ := bnd h
  refine R_q _ rfl (v_call (ok_series_Hold h_y) (.cons (ov rfl) (.aggB rfl) <| .cons (ov rfl) (.b rfl) <| .cons (ov rfl) (.b rfl) <| .nil)) ?_
  refine R_q _ rfl (v_move (ov rfl)) ?_
  refine R_q _ rfl (v_extract (ov rfl) rfl) ?_
  refine R_q _ rfl (v_extract (ov rfl) rfl) ?_
  refine R_q _ rfl (v_extract (ov rfl) rfl) ?_
  refine R_w _ _ rfl (w_alloc (row := [_, _, _]) 0 rfl tZ69 rfl tZ_69) ?_
  refine R_w _ _ rfl (w_store (ov rfl) (ov rfl) (cells_agg tA69 rfl) rfl rfl rfl (Nat.le_of_ble_eq_true rfl) (cell1_all rfl) rfl) ?_
  refine R_q _ rfl (v_assign (ov rfl)) ?_
  refine R_q _ rfl (v_assign (ov rfl)) ?_
  refine R_nil ?_
  refine T_keep (kc 1 rfl <| kc 2 rfl <| kc 3 rfl <| kn) rfl ?_
  refine T_seq (T_reg ?_)
  refine R_q _ rfl (v_move (ov rfl)) ?_
  refine R_q _ rfl (v_move (ov rfl)) ?_
  refine R_q _ rfl (.guarded (y.2.1 == true) rfl rfl rfl rfl fun h => v_move (ov rfl)) ?_
  refine R_q _ rfl (.guarded (y.2.1 == true) rfl rfl rfl rfl fun h => v_eql (ow rfl h) (ov rfl)) ?_
  refine R_q _ rfl (v_and (ov rfl) (fun hp => ow rfl (gT hp))) ?_
  refine R_q _ rfl (v_move (ov rfl)) ?_
  refine R_q _ rfl (.guarded ((y.2.1 && (decide (y.2.2 = 0))) == true) rfl rfl rfl rfl fun h => v_loadA (ov rfl) rfl rfl rfl tA69 rfl rfl) ?_
  refine R_q _ rfl (.guarded ((y.2.1 && (decide (y.2.2 = 0))) == true) rfl rfl rfl rfl fun h => v_build (ys := [_, _, _]) tPL69 tHA69 tZ69 (.cons (cvs (ov rfl) (cell1_b rfl)) <| .cons (cvs (ov rfl) (cell1_b rfl)) <| .cons (cvs (ov rfl) (cell1_b rfl)) <| .nil) rfl) ?_
  refine R_q _ rfl (.guarded ((y.2.1 && (decide (y.2.2 = 0))) == true) rfl rfl rfl rfl fun h => v_eqlS tFS69 (ow rfl h) (ow rfl h) (.aggB rfl) (.aggB rfl) rfl rfl) ?_
  refine R_q _ rfl (v_and (ov rfl) (fun hp => ow rfl (gT hp))) ?_
  refine R_q _ rfl (v_assign (ov rfl)) ?_
  refine R_nil ?_
  obtain rfl := rt (v := ((y.2.1 && (decide (y.2.2 = 0))) && (decide (y.1.At = 5) && (decide (y.1.N = 7) && (decide (y.1.Mark = 4) && true))))) h
  refine T_ret (retq ?_ (.one (.tmp rfl (Dat.view (.b rfl)))))
  rfl

theorem ok_law5_SeriesMedianMatchesSpec {s : api_Series} {width : Int} {r : Bool} (h : law5_SeriesMedianMatchesSpec s width = some r) :
    CSpec Tryd.prog gl0 8 [.agg [.int .i64 s.Den, .sl 69 (List.map R69 s.Samples)], .int .i64 width] (.bool r) := by
  unfold law5_SeriesMedianMatchesSpec at h
  replace h := bnd0 h
  refine spec_of (by kernel_rfl) Tryd.func8 rfl rfl ?_
  intro w0 A
  refine T_seq (T_reg ?_)
  refine R_q _ rfl (v_boxD (cva (ov rfl)) rfl tZ_24 rfl) ?_
  refine R_q _ rfl (v_assign (ov rfl)) ?_
  refine R_nil ?_
  refine T_keep (kc 1 rfl <| kc 2 rfl <| kn) rfl ?_
  refine T_seq (T_reg ?_)
  refine R_q _ rfl (v_loadA_r (ov rfl) tA24 rfl rfl) ?_
  refine R_q _ rfl (v_move (ov rfl)) ?_
  obtain ⟨y, h_y, h⟩ := bnd h
  refine R_q _ rfl (v_call (ok_series_Median h_y) (.cons (ov rfl) (.aggB rfl) <| .cons (ov rfl) (.b rfl) <| .nil)) ?_
  refine R_q _ rfl (v_move (ov rfl)) ?_
  refine R_q _ rfl (v_extract (ov rfl) rfl) ?_
  refine R_q _ rfl (v_extract (ov rfl) rfl) ?_
  refine R_w _ _ rfl (w_alloc (row := [_, _]) 0 rfl tZ24 rfl tZ_24) ?_
  refine R_w _ _ rfl (w_store (ov rfl) (ov rfl) (cells_agg tA24 rfl) rfl rfl rfl (Nat.le_of_ble_eq_true rfl) (cell1_all rfl) rfl) ?_
  refine R_q _ rfl (v_assign (ov rfl)) ?_
  refine R_nil ?_
  refine T_seq ?_
  refine T_keep (kc 1 rfl <| kc 2 rfl <| kc 5 rfl <| kc 6 rfl <| kn) rfl ?_
  refine T_seq (T_draw (cw := md0) (by kernel_rfl) ?_)
  refine D_read 0 _ rfl (by kernel_rfl) rfl rfl rfl ExtW.refl (fun hp' hx => v_loadA (ov rfl) (hx.get rfl rfl) rfl rfl tA24 rfl rfl) ?_
  refine D_free 1 _ rfl (by kernel_rfl) rfl rfl (fun hp' => v_move (ov rfl)) ?_
  obtain ⟨y2, h_y2, h⟩ := bnd h
  refine D_read 2 _ rfl (by kernel_rfl) rfl rfl rfl ExtW.refl (fun hp' hx => v_call (ok_law5_told h_y2) (.cons (ov rfl) (.aggB rfl) <| .cons (ov rfl) (.b rfl) <| .nil)) ?_
  refine D_read 3 _ rfl (by kernel_rfl) rfl rfl rfl ExtW.refl (fun hp' hx => v_loadA_r (ov rfl) tA24 rfl rfl) ?_
  refine D_free 4 _ rfl (by kernel_rfl) rfl rfl (fun hp' => v_move (ov rfl)) ?_
  obtain ⟨y3, h_y3, h⟩ := bnd h
  refine D_read 5 _ rfl (by kernel_rfl) rfl rfl rfl ExtW.refl (fun hp' hx => v_call (ok_ref5_Median h_y3) (.cons (ov rfl) (.aggB rfl) <| .cons (ov rfl) (.b rfl) <| .nil)) ?_
  refine D_free 6 _ rfl (by kernel_rfl) rfl rfl (fun hp' => v_extract (ov rfl) rfl) ?_
  refine D_free 7 _ rfl (by kernel_rfl) rfl rfl (fun hp' => v_extract (ov rfl) rfl) ?_
  obtain ⟨y4, h_y4, h⟩ := bnd h
  refine D_read 8 _ rfl (by kernel_rfl) rfl rfl rfl ExtW.refl (fun hp' hx => v_call (ok_law5_told h_y4) (.cons (ov rfl) (.aggB rfl) <| .cons (ov rfl) (.b rfl) <| .nil)) ?_
  refine D_free 9 _ rfl (by kernel_rfl) rfl rfl (fun hp' => v_neqStr (ov rfl) (ov rfl)) ?_
  refine D_done (by kernel_rfl) ?_
  refine T_keep (kc 2 rfl <| kc 5 rfl <| kc 6 rfl <| kc 28 rfl <| kn) rfl ?_
  refine T_if h rfl (fun b28 h => ?_) (fun b28 h => ?_)
  · skip
    refine T_keep (kn) rfl ?_
    refine T_seq (T_reg ?_)
    refine R_q _ rfl (v_assign (ov rfl)) ?_
    refine R_nil ?_
    obtain rfl := rt (v := false) h
    refine T_ret (retq ?_ (.one (.tmp rfl (Dat.view (.b rfl)))))
    rfl
  · skip
    refine T_skip ?_
    refine T_seq ?_
    refine T_keep (kc 2 rfl <| kc 5 rfl <| kc 6 rfl <| kn) rfl ?_
    refine T_seq (T_reg ?_)
    refine R_q _ rfl (v_move (ov rfl)) ?_
    refine R_q _ rfl (v_eql (ov rfl) (ov rfl)) ?_
    refine R_nil ?_
    refine T_keep (kc 2 rfl <| kc 5 rfl <| kc 30 rfl <| kn) rfl ?_
    refine T_if h rfl (fun b30 h => ?_) (fun b30 h => ?_)
    · skip
      refine T_keep (kc 2 rfl <| kc 5 rfl <| kn) rfl ?_
      refine T_seq (T_reg ?_)
      refine R_q _ rfl (v_loadA_r (ov rfl) tA24 rfl rfl) ?_
      obtain ⟨y5, h_y5, h⟩ := bnd h
      refine R_q _ rfl (v_call (ok_series_Range h_y5) (.cons (ov rfl) (.aggB rfl) <| .nil)) ?_
      refine R_q _ rfl (v_move (ov rfl)) ?_
      refine R_q _ rfl (v_extract (ov rfl) rfl) ?_
      refine R_q _ rfl (v_extract (ov rfl) rfl) ?_
      refine R_q _ rfl (v_extract (ov rfl) rfl) ?_
      refine R_q _ rfl (v_assign (ov rfl)) ?_
      refine R_q _ rfl (v_assign (ov rfl)) ?_
      refine R_q _ rfl (v_assign (ov rfl)) ?_
      refine R_nil ?_
      refine T_keep (kc 5 rfl <| kc 7 rfl <| kc 8 rfl <| kc 9 rfl <| kn) rfl ?_
      refine T_seq (T_reg ?_)
      refine R_q _ rfl (v_loadA (ov rfl) rfl rfl rfl tA24 rfl rfl) ?_
      obtain ⟨y6, h_y6, h⟩ := bnd h
      refine R_q _ rfl (v_call (ok_series_Range h_y6) (.cons (ov rfl) (.aggB rfl) <| .nil)) ?_
      refine R_q _ rfl (v_move (ov rfl)) ?_
      refine R_q _ rfl (v_extract (ov rfl) rfl) ?_
      refine R_q _ rfl (v_extract (ov rfl) rfl) ?_
      refine R_q _ rfl (v_extract (ov rfl) rfl) ?_
      refine R_q _ rfl (v_assign (ov rfl)) ?_
      refine R_q _ rfl (v_assign (ov rfl)) ?_
      refine R_q _ rfl (v_assign (ov rfl)) ?_
      refine R_nil ?_
      refine T_keep (kc 7 rfl <| kc 8 rfl <| kc 9 rfl <| kc 10 rfl <| kc 11 rfl <| kc 12 rfl <| kn) rfl ?_
      refine T_seq (T_reg ?_)
      refine R_q _ rfl (v_move (ov rfl)) ?_
      refine R_q _ rfl (v_move (ov rfl)) ?_
      refine R_q _ rfl (v_neq (ov rfl) (ov rfl)) ?_
      refine R_q _ rfl (v_move (ov rfl)) ?_
      refine R_q _ rfl (.guarded ((!decide (y5.2.2 = y6.2.2)) == false) rfl rfl rfl rfl fun h => v_move (ov rfl)) ?_
      refine R_q _ rfl (.guarded ((!decide (y5.2.2 = y6.2.2)) == false) rfl rfl rfl rfl fun h => v_eql (ow rfl h) (ov rfl)) ?_
      refine R_q _ rfl (.guarded ((!decide (y5.2.2 = y6.2.2)) == false) rfl rfl rfl rfl fun h => v_move (ow rfl h)) ?_
      refine R_q _ rfl (.guarded2 (((!decide (y5.2.2 = y6.2.2)) == false) && ((decide (y5.2.2 = 0)) == true)) rfl rfl rfl rfl fun h => v_move (ov rfl)) ?_
      refine R_q _ rfl (.guarded2 (((!decide (y5.2.2 = y6.2.2)) == false) && ((decide (y5.2.2 = 0)) == true)) rfl rfl rfl rfl fun h => v_move (ov rfl)) ?_
      refine R_q _ rfl (.guarded2 (((!decide (y5.2.2 = y6.2.2)) == false) && ((decide (y5.2.2 = 0)) == true)) rfl rfl rfl rfl fun h => v_lss (ow rfl h) (ow rfl h)) ?_
      refine R_q _ rfl (.guarded2 (((!decide (y5.2.2 = y6.2.2)) == false) && ((decide (y5.2.2 = 0)) == true)) rfl rfl rfl rfl fun h => v_move (ow rfl h)) ?_
      refine R_q _ rfl (.guarded2 ((((!decide (y5.2.2 = y6.2.2)) == false) && ((decide (y5.2.2 = 0)) == true)) && ((decide (y6.1 < y5.1)) == false)) rfl rfl rfl rfl fun h => v_move (ov rfl)) ?_
      refine R_q _ rfl (.guarded2 ((((!decide (y5.2.2 = y6.2.2)) == false) && ((decide (y5.2.2 = 0)) == true)) && ((decide (y6.1 < y5.1)) == false)) rfl rfl rfl rfl fun h => v_move (ov rfl)) ?_
      refine R_q _ rfl (.guarded2 ((((!decide (y5.2.2 = y6.2.2)) == false) && ((decide (y5.2.2 = 0)) == true)) && ((decide (y6.1 < y5.1)) == false)) rfl rfl rfl rfl fun h => v_gtr (ow rfl h) (ow rfl h)) ?_
      refine R_q _ rfl (.guarded2 (((!decide (y5.2.2 = y6.2.2)) == false) && ((decide (y5.2.2 = 0)) == true)) rfl rfl rfl rfl fun h => v_or (ow rfl h) (fun hp => ow rfl (gA h (gF hp)))) ?_
      refine R_q _ rfl (.guarded ((!decide (y5.2.2 = y6.2.2)) == false) rfl rfl rfl rfl fun h => v_and (ow rfl h) (fun hp => ow rfl (gA h (gT hp)))) ?_
      refine R_q _ rfl (v_or (ov rfl) (fun hp => ow rfl (gF hp))) ?_
      refine R_nil ?_
      refine T_keep (kc 59 rfl <| kn) rfl ?_
      refine T_if h rfl (fun b59 h => ?_) (fun b59 h => ?_)
      · skip
        refine T_keep (kn) rfl ?_
        refine T_seq (T_reg ?_)
        refine R_q _ rfl (v_assign (ov rfl)) ?_
        refine R_nil ?_
        obtain rfl := rt (v := false) h
        refine T_ret (retq ?_ (.one (.tmp rfl (Dat.view (.b rfl)))))
        rfl
      · skip
        refine T_skip ?_
        refine T_keep (kn) rfl ?_
        refine T_seq (T_reg ?_)
        obtain ⟨y7, h_y7, h⟩ := bnd h
        refine R_q _ rfl (v_call (ok_law5_holds h_y7) (.nil)) ?_
        refine R_q _ rfl (v_assign (ov rfl)) ?_
        refine R_nil ?_
        obtain rfl := rt (v := y7) h
        refine T_ret (retq ?_ (.one (.tmp rfl (Dat.view (.b rfl)))))
        rfl
    · skip
      refine T_skip ?_
      refine T_keep (kn) rfl ?_
      refine T_seq (T_reg ?_)
      obtain ⟨y8, h_y8, h⟩ := bnd h
      refine R_q _ rfl (v_call (ok_law5_holds h_y8) (.nil)) ?_
      refine R_q _ rfl (v_assign (ov rfl)) ?_
      refine R_nil ?_
      obtain rfl := rt (v := y8) h
      refine T_ret (retq ?_ (.one (.tmp rfl (Dat.view (.b rfl)))))
      rfl
end Go.Proofs.YtecdkapjjhkanaaDoor
