/- A text of the proof: a verified executor of the program form, or the contracts of the functions that the law reaches. -/
import Derived.Test.YtecdkapjjhkanaaDoorShT
import Derived.Test.YtecdkapjjhkanaaDoorProg
import Derived.Test.YtecdkapjjhkanaaDoorLayD
set_option linter.all false
namespace Go.Proofs.YtecdkapjjhkanaaDoor
open Go Go.Vx
set_option maxRecDepth 10000
set_option maxHeartbeats 1000000
set_option linter.unusedVariables false
theorem tZ_69 : Tryd.prog.cellsOf 69 = 3 := by kernel_rfl
theorem tZ_24 : Tryd.prog.cellsOf 24 = 2 := by kernel_rfl
theorem tA24 : tAgg Tryd.prog 24 2 = true := by kernel_rfl
theorem tZ24 : zeroOf Tryd.prog 24 = some [.int .i64 0, .slice none 0 0] := by kernel_rfl
theorem tL74 : tSl Tryd.prog 74 24 2 32 = true := by kernel_rfl
theorem tF24_0 : tFld Tryd.prog 24 0 0 = true := by kernel_rfl
theorem tS3 : tScal Tryd.prog 3 = true := by kernel_rfl
theorem tF24_1 : tFld Tryd.prog 24 1 1 = true := by kernel_rfl
theorem tS22 : tScal Tryd.prog 22 = true := by kernel_rfl
theorem tL22 : tSl Tryd.prog 22 69 3 24 = true := by kernel_rfl
theorem tA69 : tAgg Tryd.prog 69 3 = true := by kernel_rfl
theorem tZ69 : zeroOf Tryd.prog 69 = some [.int .i64 0, .int .i64 0, .int .i64 0] := by kernel_rfl
theorem tF69_0 : tFld Tryd.prog 69 0 0 = true := by kernel_rfl
theorem tF69_1 : tFld Tryd.prog 69 1 1 = true := by kernel_rfl
theorem tF69_2 : tFld Tryd.prog 69 2 2 = true := by kernel_rfl
theorem tPL24 : structPl Tryd.prog 24 = some [(0, 1), (1, 1)] := by kernel_rfl
theorem tHA24 : hasAll Tryd.prog 24 = true := by kernel_rfl
theorem tI3 : tInt Tryd.prog 3 .i64 = true := by kernel_rfl
theorem tI119 : tInt Tryd.prog 119 .u64 = true := by kernel_rfl
theorem tPL69 : structPl Tryd.prog 69 = some [(0, 1), (1, 1), (2, 1)] := by kernel_rfl
theorem tHA69 : hasAll Tryd.prog 69 = true := by kernel_rfl
theorem tPL63 : structPl Tryd.prog 63 = some [(0, 1)] := by kernel_rfl
theorem tHA63 : hasAll Tryd.prog 63 = true := by kernel_rfl
theorem tZ63 : zeroOf Tryd.prog 63 = some [.slice none 0 0] := by kernel_rfl
theorem tA63 : tAgg Tryd.prog 63 1 = true := by kernel_rfl
theorem tZ_5 : Tryd.prog.cellsOf 5 = 1 := by kernel_rfl
theorem tF63_0 : tFld Tryd.prog 63 0 0 = true := by kernel_rfl
theorem tS61 : tScal Tryd.prog 61 = true := by kernel_rfl
theorem tI2 : tInt Tryd.prog 2 .i64 = true := by kernel_rfl
theorem tI101 : tInt Tryd.prog 101 .u64 = true := by kernel_rfl
theorem tL61 : tSl Tryd.prog 61 5 1 1 = true := by kernel_rfl
theorem tStr9 : tStr Tryd.prog 9 = true := by kernel_rfl
theorem tZ139 : zeroOf Tryd.prog 139 = some [.int .u8 0, .int .u8 0, .int .u8 0, .int .u8 0, .int .u8 0, .int .u8 0, .int .u8 0, .int .u8 0, .int .u8 0, .int .u8 0, .int .u8 0, .int .u8 0, .int .u8 0, .int .u8 0, .int .u8 0, .int .u8 0, .int .u8 0, .int .u8 0, .int .u8 0, .int .u8 0, .int .u8 0, .int .u8 0, .int .u8 0, .int .u8 0] := by kernel_rfl
theorem tZ_139 : Tryd.prog.cellsOf 139 = 24 := by kernel_rfl
theorem tR139 : tArr Tryd.prog 139 24 5 1 = true := by kernel_rfl
theorem tZ_63 : Tryd.prog.cellsOf 63 = 1 := by kernel_rfl
theorem tL33 : tSl Tryd.prog 33 3 1 8 = true := by kernel_rfl
theorem tZ_3 : Tryd.prog.cellsOf 3 = 1 := by kernel_rfl
theorem tU85 : tU8 Tryd.prog 5 = true := by kernel_rfl
theorem tZ46 : zeroOf Tryd.prog 46 = some [.int .i64 0, .int .i64 0] := by kernel_rfl
theorem tZ_46 : Tryd.prog.cellsOf 46 = 2 := by kernel_rfl
theorem tPL46 : structPl Tryd.prog 46 = some [(0, 1), (1, 1)] := by kernel_rfl
theorem tHA46 : hasAll Tryd.prog 46 = true := by kernel_rfl
theorem tA46 : tAgg Tryd.prog 46 2 = true := by kernel_rfl
theorem tZ103 : zeroOf Tryd.prog 103 = some [.int .u64 0, .int .u64 0] := by kernel_rfl
theorem tZ_103 : Tryd.prog.cellsOf 103 = 2 := by kernel_rfl
theorem tF103_1 : tFld Tryd.prog 103 1 1 = true := by kernel_rfl
theorem tS101 : tScal Tryd.prog 101 = true := by kernel_rfl
theorem tF103_0 : tFld Tryd.prog 103 0 0 = true := by kernel_rfl
theorem tA103 : tAgg Tryd.prog 103 2 = true := by kernel_rfl
theorem tZ107 : zeroOf Tryd.prog 107 = some [.bool false, .int .u64 0, .int .u64 0] := by kernel_rfl
theorem tZ_107 : Tryd.prog.cellsOf 107 = 3 := by kernel_rfl
theorem tPL107 : structPl Tryd.prog 107 = some [(0, 1), (1, 1), (2, 1)] := by kernel_rfl
theorem tHA107 : hasAll Tryd.prog 107 = true := by kernel_rfl
theorem tA107 : tAgg Tryd.prog 107 3 = true := by kernel_rfl
theorem tF107_1 : tFld Tryd.prog 107 1 1 = true := by kernel_rfl
theorem tF107_2 : tFld Tryd.prog 107 2 2 = true := by kernel_rfl
theorem tFS46 : flatSt Tryd.prog 46 [.i .i64, .i .i64] = true := by kernel_rfl
theorem tFS69 : flatSt Tryd.prog 69 [.i .i64, .i .i64, .i .i64] = true := by kernel_rfl
def gl0 : Gl := ⟨1, [(0, (Go.Lib.pow10Tab.map fun z => Value.int .u64 z).toArray)]⟩
def R69 (x : api_Sample) : List AV := [.int .i64 x.At, .int .i64 x.N, .int .i64 x.Mark]
def R24 (x : api_Series) : List AV := [.int .i64 x.Den, .sl 69 (List.map R69 x.Samples)]
theorem D69 (x : api_Sample) : (R69 x).length = Tryd.prog.cellsOf 69 ∧ (R69 x).all datB = true := ⟨tZ_69.symm, rfl⟩
def R5 (x : Int) : List AV := [.int .u8 x]
theorem D5 (x : Int) : (R5 x).length = Tryd.prog.cellsOf 5 ∧ (R5 x).all datB = true := ⟨tZ_5.symm, rfl⟩
def C5 (x : Int) : AV := .int .u8 x
def R3 (x : Int) : List AV := [.int .i64 x]
theorem D3 (x : Int) : (R3 x).length = Tryd.prog.cellsOf 3 ∧ (R3 x).all datB = true := ⟨tZ_3.symm, rfl⟩

theorem ok_series_within {n : Int} {low : Int} {high : Int} {r : Bool} (h : series_within n low high = some r) :
    CSpec Tryd.prog gl0 40 [.int .i64 n, .int .i64 low, .int .i64 high] (.bool r) := by
  unfold series_within at h
  replace h := bnd0 h
  refine spec_of (by kernel_rfl) Tryd.func40 rfl rfl ?_
  intro w0 A
  refine T_seq (T_reg ?_)
  refine R_q _ rfl (v_assign (ov rfl)) ?_
  refine R_nil ?_
  refine T_seq (T_reg ?_)
  refine R_q _ rfl (v_move (ov rfl)) ?_
  refine R_q _ rfl (v_move (ov rfl)) ?_
  refine R_q _ rfl (v_geq (ov rfl) (ov rfl)) ?_
  refine R_q _ rfl (v_move (ov rfl)) ?_
  refine R_q _ rfl (.guarded ((decide (low ≤ n)) == true) rfl rfl rfl rfl fun h => v_move (ov rfl)) ?_
  refine R_q _ rfl (.guarded ((decide (low ≤ n)) == true) rfl rfl rfl rfl fun h => v_move (ov rfl)) ?_
  refine R_q _ rfl (.guarded ((decide (low ≤ n)) == true) rfl rfl rfl rfl fun h => v_leq (ow rfl h) (ow rfl h)) ?_
  refine R_q _ rfl (v_and (ov rfl) (fun hp => ow rfl (gT hp))) ?_
  refine R_q _ rfl (v_assign (ov rfl)) ?_
  refine R_nil ?_
  obtain rfl := rt (v := ((decide (low ≤ n)) && (decide (n ≤ high)))) h
  refine T_ret (retq ?_ (.one (.tmp rfl (Dat.view (.b rfl)))))
  rfl

theorem ok_series_check {s : api_Series} {r : Int × Int} (h : series_check s = some r) :
    CSpec Tryd.prog gl0 68 [.agg [.int .i64 s.Den, .sl 69 (List.map R69 s.Samples)]] (.tuple [.int .i64 r.1, .int .i64 r.2]) := by
  unfold series_check at h
  replace h := bnd0 h
  refine spec_of (by kernel_rfl) Tryd.func68 rfl rfl ?_
  intro w0 A
  refine T_seq (T_reg ?_)
  refine R_q _ rfl (v_boxD (cva (ov rfl)) rfl tZ_24 rfl) ?_
  refine R_q _ rfl (v_assign (ov rfl)) ?_
  refine R_q _ rfl (v_assign (ov rfl)) ?_
  refine R_nil ?_
  refine T_seq ?_
  refine T_keep (kc 1 rfl <| kn) rfl ?_
  refine T_seq (T_reg ?_)
  refine R_q _ rfl (v_fieldR (ov rfl) tF24_0) ?_
  refine R_q _ rfl (v_loadS_r (ov rfl) tS3 rfl) ?_
  obtain ⟨y, h_y, h⟩ := bnd h
  refine R_q _ rfl (v_call (ok_series_within h_y) (.cons (ov rfl) (.b rfl) <| .cons (ov rfl) (.b rfl) <| .cons (ov rfl) (.b rfl) <| .nil)) ?_
  refine R_q _ rfl (v_not (ov rfl)) ?_
  refine R_nil ?_
  refine T_keep (kc 1 rfl <| kc 9 rfl <| kn) rfl ?_
  refine T_if h rfl (fun b9 h => ?_) (fun b9 h => ?_)
  · skip
    refine T_keep (kn) rfl ?_
    refine T_seq (T_reg ?_)
    refine R_q _ rfl (v_assign (ov rfl)) ?_
    refine R_q _ rfl (v_assign (ov rfl)) ?_
    refine R_nil ?_
    obtain rfl := rt (v := ((-1), 9)) h
    refine T_ret (retq ?_ (.two (.tmp rfl (Dat.view (.b rfl))) (.tmp rfl (Dat.view (.b rfl)))))
    rfl
  · skip
    refine T_skip ?_
    refine T_seq ?_
    refine T_keep (kc 1 rfl <| kn) rfl ?_
    refine T_seq (T_reg ?_)
    refine R_q _ rfl (v_fieldR (ov rfl) tF24_1) ?_
    refine R_q _ rfl (v_loadS_r (ov rfl) tS22 rfl) ?_
    refine R_q _ rfl (v_len (slv_sl (ov rfl) tZ_69) tL22 (len_map _ _)) ?_
    refine R_q _ rfl (v_gtr (ov rfl) (ov rfl)) ?_
    refine R_nil ?_
    refine T_keep (kc 1 rfl <| kc 13 rfl <| kn) rfl ?_
    refine T_if h rfl (fun b13 h => ?_) (fun b13 h => ?_)
    · skip
      refine T_keep (kn) rfl ?_
      refine T_seq (T_reg ?_)
      refine R_q _ rfl (v_assign (ov rfl)) ?_
      refine R_q _ rfl (v_assign (ov rfl)) ?_
      refine R_nil ?_
      obtain rfl := rt (v := ((-1), 3)) h
      refine T_ret (retq ?_ (.two (.tmp rfl (Dat.view (.b rfl))) (.tmp rfl (Dat.view (.b rfl)))))
      rfl
    · skip
      refine T_skip ?_
      refine T_joinG (fun j => (.inr j)) (t0 ⟨[], []⟩) h (fun h => ?_) (fun j h => ?_)
      · skip
        refine T_keep (kc 1 rfl <| kn) rfl ?_
        refine T_seq (T_reg ?_)
        refine R_q _ rfl (v_fieldR (ov rfl) tF24_1) ?_
        refine R_q _ rfl (v_loadS_r (ov rfl) tS22 rfl) ?_
        refine R_q _ rfl (v_len (slv_sl (ov rfl) tZ_69) tL22 (len_map _ _)) ?_
        refine R_q _ rfl (v_move (ov rfl)) ?_
        refine R_nil ?_
        refine T_block ?_
        obtain ⟨r1, hl1, ho1⟩ := bndL h
        refine T_loopG _ (t1 fun i => ⟨[(1, .rp [.int .i64 s.Den, .sl 69 (List.map R69 s.Samples)] 0), (15, .sl 69 (List.map R69 s.Samples)), (16, .int .i64 (s.Samples.length : Int)), (17, .int .i64 i)], []⟩) _ hl1 (Ent.sel [] (sd 1 rfl rfl <| sd 15 rfl rfl <| sd 16 rfl rfl <| sd 17 rfl rfl <| sn) (.nil) rfl rfl) (fun n1 s1 h => ?_)
        obtain ⟨i, rfl⟩ : ∃ x, x = s1 := ⟨_, rfl⟩
        replace h := t1i h
        refine t1T ?_
        unfold series_check_L1 at h
        refine T_seq (T_reg ?_)
        refine R_q _ rfl (v_lss (ov rfl) (ov rfl)) ?_
        refine R_nil ?_
        refine T_seq ?_
        refine T_if h rfl (fun b18 h => ?_) (fun b18 h => ?_)
        · skip
          refine T_skip ?_
          refine T_seq ?_
          refine T_block ?_
          refine T_keep (kc 1 rfl <| kc 15 rfl <| kc 16 rfl <| kc 17 rfl <| kn) rfl ?_
          refine T_seq (T_reg ?_)
          refine R_q _ rfl (v_move (ov rfl)) ?_
          obtain ⟨x, h_x, h⟩ := bnd h
          refine R_q _ rfl (v_ixSG (ov rfl) (ov rfl) tL22 h_x) ?_
          refine R_q _ rfl (v_loadA_r (ov rfl) tA69 rfl rfl) ?_
          refine R_w _ _ rfl (w_alloc (row := [_, _, _]) 0 rfl tZ69 rfl tZ_69) ?_
          refine R_q _ rfl (v_assign (ov rfl)) ?_
          refine R_w _ _ rfl (w_store (ov rfl) (ov rfl) (cells_agg tA69 rfl) rfl rfl rfl (Nat.le_of_ble_eq_true rfl) (cell1_all rfl) rfl) ?_
          refine R_nil ?_
          refine T_block ?_
          refine T_keep (kc 1 rfl <| kc 4 rfl <| kc 5 rfl <| kc 15 rfl <| kc 16 rfl <| kc 17 rfl <| kn) rfl ?_
          refine T_seq (T_reg ?_)
          refine R_q _ rfl (v_fieldP (ov rfl) rfl rfl tF69_0) ?_
          refine R_q _ rfl (v_loadS (ov rfl) rfl rfl rfl tS3 rfl) ?_
          obtain ⟨y2, h_y2, h⟩ := bnd h
          refine R_q _ rfl (v_call (ok_series_within h_y2) (.cons (ov rfl) (.b rfl) <| .cons (ov rfl) (.b rfl) <| .cons (ov rfl) (.b rfl) <| .nil)) ?_
          refine R_q _ rfl (v_not (ov rfl)) ?_
          refine R_q _ rfl (v_move (ov rfl)) ?_
          refine R_q _ rfl (.guarded ((!y2) == false) rfl rfl rfl rfl fun h => v_fieldP (ov rfl) rfl rfl tF69_1) ?_
          refine R_q _ rfl (.guarded ((!y2) == false) rfl rfl rfl rfl fun h => v_loadS (ow rfl h) rfl rfl rfl tS3 rfl) ?_
          obtain ⟨y3, h_y3, h⟩ := bnd h
          refine R_q _ rfl (.guarded ((!y2) == false) rfl rfl rfl rfl fun h => v_call (ok_series_within (gdT h_y3 h)) (.cons (ow rfl h) (.b rfl) <| .cons (ov rfl) (.b rfl) <| .cons (ov rfl) (.b rfl) <| .nil)) ?_
          refine R_q _ rfl (.guarded ((!y2) == false) rfl rfl rfl rfl fun h => v_not (ow rfl h)) ?_
          refine R_q _ rfl (v_or (ov rfl) (fun hp => ow rfl (gF hp))) ?_
          refine R_q _ rfl (v_move (ov rfl)) ?_
          refine R_q _ rfl (.guarded (((!y2) || (!y3)) == false) rfl rfl rfl rfl fun h => v_fieldP (ov rfl) rfl rfl tF69_2) ?_
          refine R_q _ rfl (.guarded (((!y2) || (!y3)) == false) rfl rfl rfl rfl fun h => v_loadS (ow rfl h) rfl rfl rfl tS3 rfl) ?_
          obtain ⟨y4, h_y4, h⟩ := bnd h
          refine R_q _ rfl (.guarded (((!y2) || (!y3)) == false) rfl rfl rfl rfl fun h => v_call (ok_series_within (gdT h_y4 h)) (.cons (ow rfl h) (.b rfl) <| .cons (ov rfl) (.b rfl) <| .cons (ov rfl) (.b rfl) <| .nil)) ?_
          refine R_q _ rfl (.guarded (((!y2) || (!y3)) == false) rfl rfl rfl rfl fun h => v_not (ow rfl h)) ?_
          refine R_q _ rfl (v_or (ov rfl) (fun hp => ow rfl (gF hp))) ?_
          refine R_q _ rfl (v_assign (ov rfl)) ?_
          refine R_nil ?_
          refine T_keep (kc 1 rfl <| kc 4 rfl <| kc 5 rfl <| kc 15 rfl <| kc 16 rfl <| kc 17 rfl <| kc 22 rfl <| kn) rfl ?_
          refine T_if h rfl (fun b22 h => ?_) (fun b22 h => ?_)
          · skip
            refine T_keep (kc 4 rfl <| kn) rfl ?_
            refine T_seq (T_reg ?_)
            refine R_q _ rfl (v_move (ov rfl)) ?_
            refine R_q _ rfl (v_assign (ov rfl)) ?_
            refine R_q _ rfl (v_assign (ov rfl)) ?_
            refine R_nil ?_
            rw [lx h] at ho1
            replace h := ho1
            obtain rfl := rt (v := (i, 9)) h
            refine T_ret (retq ?_ (.two (.tmp rfl (Dat.view (.b rfl))) (.tmp rfl (Dat.view (.b rfl)))))
            rfl
          · skip
            refine T_keep (kc 1 rfl <| kc 4 rfl <| kc 5 rfl <| kc 15 rfl <| kc 16 rfl <| kc 17 rfl <| kn) rfl ?_
            refine T_seq (T_reg ?_)
            refine R_q _ rfl (v_fieldP (ov rfl) rfl rfl tF69_1) ?_
            refine R_q _ rfl (v_loadS (ov rfl) rfl rfl rfl tS3 rfl) ?_
            refine R_q _ rfl (v_neq (ov rfl) (ov rfl)) ?_
            refine R_q _ rfl (v_move (ov rfl)) ?_
            refine R_q _ rfl (.guarded ((!decide (x.N = 0)) == true) rfl rfl rfl rfl fun h => v_fieldP (ov rfl) rfl rfl tF69_2) ?_
            refine R_q _ rfl (.guarded ((!decide (x.N = 0)) == true) rfl rfl rfl rfl fun h => v_loadS (ow rfl h) rfl rfl rfl tS3 rfl) ?_
            refine R_q _ rfl (.guarded ((!decide (x.N = 0)) == true) rfl rfl rfl rfl fun h => v_leq (ow rfl h) (ov rfl)) ?_
            refine R_q _ rfl (v_and (ov rfl) (fun hp => ow rfl (gT hp))) ?_
            refine R_q _ rfl (v_assign (ov rfl)) ?_
            refine R_nil ?_
            refine T_keep (kc 1 rfl <| kc 4 rfl <| kc 5 rfl <| kc 15 rfl <| kc 16 rfl <| kc 17 rfl <| kc 40 rfl <| kn) rfl ?_
            refine T_if h rfl (fun b40 h => ?_) (fun b40 h => ?_)
            · skip
              refine T_keep (kc 4 rfl <| kn) rfl ?_
              refine T_seq (T_reg ?_)
              refine R_q _ rfl (v_move (ov rfl)) ?_
              refine R_q _ rfl (v_assign (ov rfl)) ?_
              refine R_q _ rfl (v_assign (ov rfl)) ?_
              refine R_nil ?_
              rw [lx h] at ho1
              replace h := ho1
              obtain rfl := rt (v := (i, 2)) h
              refine T_ret (retq ?_ (.two (.tmp rfl (Dat.view (.b rfl))) (.tmp rfl (Dat.view (.b rfl)))))
              rfl
            · skip
              refine T_keep (kc 1 rfl <| kc 4 rfl <| kc 5 rfl <| kc 15 rfl <| kc 16 rfl <| kc 17 rfl <| kn) rfl ?_
              refine T_seq (T_draw (cw := md0) (by kernel_rfl) ?_)
              refine D_free 0 _ rfl (by kernel_rfl) rfl rfl (fun hp' => v_move (ov rfl)) ?_
              refine D_free 1 _ rfl (by kernel_rfl) rfl rfl (fun hp' => v_gtr (ov rfl) (ov rfl)) ?_
              refine D_free 2 _ rfl (by kernel_rfl) rfl rfl (fun hp' => v_move (ov rfl)) ?_
              refine D_read 3 _ rfl (by kernel_rfl) rfl rfl rfl ExtW.refl (fun hp' hx => .guarded ((decide (0 < i)) == true) rfl rfl rfl rfl fun h => v_fieldP (ov rfl) (hx.get rfl rfl) rfl tF69_0) ?_
              refine D_read 4 _ rfl (by kernel_rfl) rfl rfl rfl ExtW.refl (fun hp' hx => .guarded ((decide (0 < i)) == true) rfl rfl rfl rfl fun h => v_loadS (ow rfl h) (hx.get rfl rfl) rfl rfl tS3 rfl) ?_
              refine D_read 5 _ rfl (by kernel_rfl) rfl rfl rfl ExtW.refl (fun hp' hx => .guarded ((decide (0 < i)) == true) rfl rfl rfl rfl fun h => v_fieldR (ov rfl) tF24_1) ?_
              refine D_read 6 _ rfl (by kernel_rfl) rfl rfl rfl ExtW.refl (fun hp' hx => .guarded ((decide (0 < i)) == true) rfl rfl rfl rfl fun h => v_loadS_r (ow rfl h) tS22 rfl) ?_
              refine D_free 7 _ rfl (by kernel_rfl) rfl rfl (fun hp' => .guarded ((decide (0 < i)) == true) rfl rfl rfl rfl fun h => v_move (ov rfl)) ?_
              refine D_free 8 _ rfl (by kernel_rfl) rfl rfl (fun hp' => .guarded ((decide (0 < i)) == true) rfl rfl rfl rfl fun h => v_sub (ow rfl h) (ov rfl) rfl) ?_
              obtain ⟨x2, h_x2, h⟩ := bnd h
              refine D_read 9 _ rfl (by kernel_rfl) rfl rfl rfl ExtW.refl (fun hp' hx => .guarded ((decide (0 < i)) == true) rfl rfl rfl rfl fun h => v_ixSG (ow rfl h) (ow rfl h) tL22 (gdT h_x2 h)) ?_
              refine D_read 10 _ rfl (by kernel_rfl) rfl rfl rfl ExtW.refl (fun hp' hx => .guarded ((decide (0 < i)) == true) rfl rfl rfl rfl fun h => v_fieldR (ow rfl h) tF69_0) ?_
              refine D_read 11 _ rfl (by kernel_rfl) rfl rfl rfl ExtW.refl (fun hp' hx => .guarded ((decide (0 < i)) == true) rfl rfl rfl rfl fun h => v_loadS_r (ow rfl h) tS3 rfl) ?_
              refine D_free 12 _ rfl (by kernel_rfl) rfl rfl (fun hp' => .guarded ((decide (0 < i)) == true) rfl rfl rfl rfl fun h => v_leq (ow rfl h) (ow rfl h)) ?_
              refine D_free 13 _ rfl (by kernel_rfl) rfl rfl (fun hp' => v_and (ov rfl) (fun hp => ow rfl (gT hp))) ?_
              refine D_free 14 _ rfl (by kernel_rfl) rfl rfl (fun hp' => v_assign (ov rfl)) ?_
              refine D_done (by kernel_rfl) ?_
              refine T_keep (kc 1 rfl <| kc 4 rfl <| kc 15 rfl <| kc 16 rfl <| kc 17 rfl <| kc 50 rfl <| kn) rfl ?_
              refine T_if h rfl (fun b50 h => ?_) (fun b50 h => ?_)
              · skip
                refine T_keep (kc 4 rfl <| kn) rfl ?_
                refine T_seq (T_reg ?_)
                refine R_q _ rfl (v_move (ov rfl)) ?_
                refine R_q _ rfl (v_assign (ov rfl)) ?_
                refine R_q _ rfl (v_assign (ov rfl)) ?_
                refine R_nil ?_
                rw [lx h] at ho1
                replace h := ho1
                obtain rfl := rt (v := (i, 10)) h
                refine T_ret (retq ?_ (.two (.tmp rfl (Dat.view (.b rfl))) (.tmp rfl (Dat.view (.b rfl)))))
                rfl
              · skip
                refine T_skip ?_
                refine T_keep (kc 1 rfl <| kc 15 rfl <| kc 16 rfl <| kc 17 rfl <| kn) rfl ?_
                refine T_reg ?_
                refine R_q _ rfl (v_add (ov rfl) (ov rfl) rfl) ?_
                refine R_q _ rfl (v_move (ov rfl)) ?_
                refine R_nil ?_
                exact ⟨(i64 (i + 1)), h, Ent.sel [] (sd 1 rfl rfl <| sd 15 rfl rfl <| sd 16 rfl rfl <| sd 17 rfl rfl <| sn) (.nil) rfl rfl⟩
        · skip
          refine T_exit ?_
          rw [lx h] at ho1
          replace h := ho1
          exact ⟨(), h, Ent.sel [] (sn) (.nil) rfl rfl⟩
      · skip
        replace h := elr h
        cases j
        replace h := t0i h
        refine t0T ?_
        refine T_seq (T_reg ?_)
        refine R_q _ rfl (v_assign (ov rfl)) ?_
        refine R_q _ rfl (v_assign (ov rfl)) ?_
        refine R_nil ?_
        obtain rfl := rt (v := ((-1), 0)) h
        refine T_ret (retq ?_ (.two (.tmp rfl (Dat.view (.b rfl))) (.tmp rfl (Dat.view (.b rfl)))))
        rfl

theorem ok_series_Check {s : api_Series} {r : Int} (h : series_Check s = some r) :
    CSpec Tryd.prog gl0 32 [.agg [.int .i64 s.Den, .sl 69 (List.map R69 s.Samples)]] (.int .i64 r) := by
  unfold series_Check at h
  replace h := bnd0 h
  refine spec_of (by kernel_rfl) Tryd.func32 rfl rfl ?_
  intro w0 A
  refine T_seq (T_reg ?_)
  refine R_q _ rfl (v_boxD (cva (ov rfl)) rfl tZ_24 rfl) ?_
  refine R_q _ rfl (v_assign (ov rfl)) ?_
  refine R_nil ?_
  refine T_keep (kc 1 rfl <| kn) rfl ?_
  refine T_seq (T_reg ?_)
  refine R_q _ rfl (v_loadA_r (ov rfl) tA24 rfl rfl) ?_
  obtain ⟨y, h_y, h⟩ := bnd h
  refine R_q _ rfl (v_call (ok_series_check h_y) (.cons (ov rfl) (.aggB rfl) <| .nil)) ?_
  refine R_q _ rfl (v_move (ov rfl)) ?_
  refine R_q _ rfl (v_extract (ov rfl) rfl) ?_
  refine R_q _ rfl (v_extract (ov rfl) rfl) ?_
  refine R_q _ rfl (v_assign (ov rfl)) ?_
  refine R_q _ rfl (v_assign (ov rfl)) ?_
  refine R_nil ?_
  refine T_keep (kc 4 rfl <| kn) rfl ?_
  refine T_seq (T_reg ?_)
  refine R_q _ rfl (v_move (ov rfl)) ?_
  refine R_q _ rfl (v_assign (ov rfl)) ?_
  refine R_nil ?_
  obtain rfl := rt (v := y.2) h
  refine T_ret (retq ?_ (.one (.tmp rfl (Dat.view (.b rfl)))))
  rfl

theorem ok_slices_BinarySearchFunc_api_Sample_api_Sample_int {x : List api_Sample} {target : Int} {cmp : api_Sample → Int → Option Int} {r : Int × Bool} {cmp_f : FuncId} {cmp_c : List AV} (cmp_d : cmp_c.all datB = true) (cmp_h : ∀ (z0 : api_Sample) (z1 : Int) z, cmp z0 z1 = some z → CSpec Tryd.prog gl0 cmp_f ([.agg [.int .i64 z0.At, .int .i64 z0.N, .int .i64 z0.Mark], .int .i64 z1] ++ cmp_c) (.int .i64 z)) (h : slices_BinarySearchFunc_api_Sample_api_Sample_int x target cmp = some r) :
    CSpec Tryd.prog gl0 84 [.sl 69 (List.map R69 x), .int .i64 target, .fn cmp_f cmp_c] (.tuple [.int .i64 r.1, .bool r.2]) := by
  unfold slices_BinarySearchFunc_api_Sample_api_Sample_int at h
  replace h := bnd0 h
  refine spec_of (by kernel_rfl) Tryd.func84 rfl rfl ?_
  intro w0 A
  refine T_seq (T_reg ?_)
  refine R_q _ rfl (v_assign (ov rfl)) ?_
  refine R_q _ rfl (v_assign (ov rfl)) ?_
  refine R_nil ?_
  refine T_keep (kc 0 rfl <| kc 1 rfl <| kc 2 rfl <| kn) rfl ?_
  refine T_seq (T_reg ?_)
  refine R_q _ rfl (v_move (ov rfl)) ?_
  refine R_q _ rfl (v_len (slv_sl (ov rfl) tZ_69) tL22 (len_map _ _)) ?_
  refine R_q _ rfl (v_assign (ov rfl)) ?_
  refine R_nil ?_
  refine T_keep (kc 0 rfl <| kc 1 rfl <| kc 2 rfl <| kc 8 rfl <| kn) rfl ?_
  refine T_seq (T_reg ?_)
  refine R_q _ rfl (v_move (ov rfl)) ?_
  refine R_q _ rfl (v_assign (ov rfl)) ?_
  refine R_q _ rfl (v_assign (ov rfl)) ?_
  refine R_nil ?_
  refine T_joinG id (t1 fun i => ⟨[(0, .sl 69 (List.map R69 x)), (1, .int .i64 target), (2, .fn cmp_f cmp_c), (8, .int .i64 (x.length : Int)), (9, .int .i64 i)], []⟩) h (fun h => ?_) (fun j h => ?_)
  · skip
    refine T_block ?_
    obtain ⟨r1, hl1, ho1⟩ := bndL h
    refine T_loopG _ (t2 fun i2 j => ⟨[(0, .sl 69 (List.map R69 x)), (1, .int .i64 target), (2, .fn cmp_f cmp_c), (8, .int .i64 (x.length : Int)), (9, .int .i64 i2), (10, .int .i64 j)], []⟩) _ hl1 (Ent.sel [] (sd 0 rfl rfl <| sd 1 rfl rfl <| sr 2 rfl (rFn (rld cmp_d)) <| sd 8 rfl rfl <| sd 9 rfl rfl <| sd 10 rfl rfl <| sn) (.nil) rfl rfl) (fun n1 s1 h => ?_)
    obtain ⟨i2, j⟩ := s1
    replace h := t2i h
    refine t2T ?_
    unfold slices_BinarySearchFunc_api_Sample_api_Sample_int_L1 at h
    refine T_seq ?_
    refine T_seq (T_reg ?_)
    refine R_q _ rfl (v_move (ov rfl)) ?_
    refine R_q _ rfl (v_move (ov rfl)) ?_
    refine R_q _ rfl (v_lss (ov rfl) (ov rfl)) ?_
    refine R_nil ?_
    refine T_keep (kc 0 rfl <| kc 1 rfl <| kc 2 rfl <| kc 8 rfl <| kc 9 rfl <| kc 10 rfl <| kc 17 rfl <| kn) rfl ?_
    refine T_if h rfl (fun b17 h => ?_) (fun b17 h => ?_)
    · skip
      refine T_skip ?_
      refine T_block ?_
      refine T_keep (kc 0 rfl <| kc 1 rfl <| kc 2 rfl <| kc 8 rfl <| kc 9 rfl <| kc 10 rfl <| kn) rfl ?_
      refine T_seq (T_reg ?_)
      refine R_q _ rfl (v_move (ov rfl)) ?_
      refine R_q _ rfl (v_move (ov rfl)) ?_
      refine R_q _ rfl (v_add (ov rfl) (ov rfl) rfl) ?_
      refine R_q _ rfl (v_conv (ov rfl) tI3 tI119 rfl) ?_
      obtain ⟨q, h_q, h⟩ := bnd h
      refine R_q _ rfl (v_shrG (ov rfl) (ov rfl) h_q) ?_
      refine R_q _ rfl (v_conv (ov rfl) tI119 tI3 rfl) ?_
      refine R_q _ rfl (v_assign (ov rfl)) ?_
      refine R_nil ?_
      refine T_keep (kc 0 rfl <| kc 1 rfl <| kc 2 rfl <| kc 8 rfl <| kc 9 rfl <| kc 10 rfl <| kc 11 rfl <| kn) rfl ?_
      refine T_seq (T_reg ?_)
      refine R_q _ rfl (v_move (ov rfl)) ?_
      refine R_q _ rfl (v_move (ov rfl)) ?_
      refine R_q _ rfl (v_move (ov rfl)) ?_
      obtain ⟨x2, h_x2, h⟩ := bnd h
      refine R_q _ rfl (v_ixSG (ov rfl) (ov rfl) tL22 h_x2) ?_
      refine R_q _ rfl (v_loadA_r (ov rfl) tA69 rfl rfl) ?_
      refine R_q _ rfl (v_move (ov rfl)) ?_
      obtain ⟨y, h_y, h⟩ := bnd h
      refine R_q _ rfl (v_callC (ov rfl) cmp_d (cmp_h _ _ _ h_y) (.cons (ov rfl) (.aggB rfl) <| .cons (ov rfl) (.b rfl) <| .nil)) ?_
      refine R_q _ rfl (v_lss (ov rfl) (ov rfl)) ?_
      refine R_nil ?_
      refine T_keep (kc 0 rfl <| kc 1 rfl <| kc 2 rfl <| kc 8 rfl <| kc 9 rfl <| kc 10 rfl <| kc 11 rfl <| kc 31 rfl <| kn) rfl ?_
      refine T_if h rfl (fun b31 h => ?_) (fun b31 h => ?_)
      · skip
        refine T_keep (kc 0 rfl <| kc 1 rfl <| kc 2 rfl <| kc 8 rfl <| kc 9 rfl <| kc 10 rfl <| kc 11 rfl <| kn) rfl ?_
        refine T_reg ?_
        refine R_q _ rfl (v_move (ov rfl)) ?_
        refine R_q _ rfl (v_add (ov rfl) (ov rfl) rfl) ?_
        refine R_q _ rfl (v_assign (ov rfl)) ?_
        refine R_nil ?_
        exact ⟨((i64 ((i64 q) + 1)), j), h, Ent.sel [] (sd 0 rfl rfl <| sd 1 rfl rfl <| sr 2 rfl (rFn (rld cmp_d)) <| sd 8 rfl rfl <| sd 9 rfl rfl <| sd 10 rfl rfl <| sn) (.nil) rfl rfl⟩
      · skip
        refine T_keep (kc 0 rfl <| kc 1 rfl <| kc 2 rfl <| kc 8 rfl <| kc 9 rfl <| kc 10 rfl <| kc 11 rfl <| kn) rfl ?_
        refine T_reg ?_
        refine R_q _ rfl (v_move (ov rfl)) ?_
        refine R_q _ rfl (v_assign (ov rfl)) ?_
        refine R_nil ?_
        exact ⟨(i2, (i64 q)), h, Ent.sel [] (sd 0 rfl rfl <| sd 1 rfl rfl <| sr 2 rfl (rFn (rld cmp_d)) <| sd 8 rfl rfl <| sd 9 rfl rfl <| sd 10 rfl rfl <| sn) (.nil) rfl rfl⟩
    · skip
      refine T_exit ?_
      rw [lx h] at ho1
      replace h := ho1
      exact ⟨i2, h, Ent.sel [] (sd 0 rfl rfl <| sd 1 rfl rfl <| sr 2 rfl (rFn (rld cmp_d)) <| sd 8 rfl rfl <| sd 9 rfl rfl <| sn) (.nil) rfl rfl⟩
  · skip
    obtain ⟨i, rfl⟩ : ∃ x, x = j := ⟨_, rfl⟩
    replace h := t1i h
    refine t1T ?_
    refine T_seq (T_reg ?_)
    refine R_q _ rfl (v_move (ov rfl)) ?_
    refine R_q _ rfl (v_move (ov rfl)) ?_
    refine R_q _ rfl (v_move (ov rfl)) ?_
    refine R_q _ rfl (v_lss (ov rfl) (ov rfl)) ?_
    refine R_q _ rfl (v_move (ov rfl)) ?_
    refine R_q _ rfl (.guarded ((decide (i < (x.length : Int))) == true) rfl rfl rfl rfl fun h => v_move (ov rfl)) ?_
    refine R_q _ rfl (.guarded ((decide (i < (x.length : Int))) == true) rfl rfl rfl rfl fun h => v_move (ov rfl)) ?_
    refine R_q _ rfl (.guarded ((decide (i < (x.length : Int))) == true) rfl rfl rfl rfl fun h => v_move (ov rfl)) ?_
    obtain ⟨x3, h_x3, h⟩ := bnd h
    refine R_q _ rfl (.guarded ((decide (i < (x.length : Int))) == true) rfl rfl rfl rfl fun h => v_ixSG (ow rfl h) (ow rfl h) tL22 (gdT h_x3 h)) ?_
    refine R_q _ rfl (.guarded ((decide (i < (x.length : Int))) == true) rfl rfl rfl rfl fun h => v_loadA_r (ow rfl h) tA69 rfl rfl) ?_
    refine R_q _ rfl (.guarded ((decide (i < (x.length : Int))) == true) rfl rfl rfl rfl fun h => v_move (ov rfl)) ?_
    obtain ⟨y2, h_y2, h⟩ := bnd h
    refine R_q _ rfl (.guarded ((decide (i < (x.length : Int))) == true) rfl rfl rfl rfl fun h => v_callC (ow rfl h) cmp_d (cmp_h _ _ _ (gdT h_y2 h)) (.cons (ow rfl h) (.aggB rfl) <| .cons (ow rfl h) (.b rfl) <| .nil)) ?_
    refine R_q _ rfl (.guarded ((decide (i < (x.length : Int))) == true) rfl rfl rfl rfl fun h => v_eql (ow rfl h) (ov rfl)) ?_
    refine R_q _ rfl (v_and (ov rfl) (fun hp => ow rfl (gT hp))) ?_
    refine R_q _ rfl (v_assign (ov rfl)) ?_
    refine R_q _ rfl (v_assign (ov rfl)) ?_
    refine R_nil ?_
    obtain rfl := rt (v := (i, ((decide (i < (x.length : Int))) && (decide (y2 = 0))))) h
    refine T_ret (retq ?_ (.two (.tmp rfl (Dat.view (.b rfl))) (.tmp rfl (Dat.view (.b rfl)))))
    rfl

theorem ok_series_latest_1 {x : api_Sample} {at_ : Int} {r : Int} (h : series_latest_1 x at_ = some r) :
    CSpec Tryd.prog gl0 85 [.agg [.int .i64 x.At, .int .i64 x.N, .int .i64 x.Mark], .int .i64 at_] (.int .i64 r) := by
  unfold series_latest_1 at h
  replace h := bnd0 h
  refine spec_of (by kernel_rfl) Tryd.func85 rfl rfl ?_
  intro w0 A
  refine T_seq (T_reg ?_)
  refine R_q _ rfl (v_boxD (cva (ov rfl)) rfl tZ_69 rfl) ?_
  refine R_q _ rfl (v_assign (ov rfl)) ?_
  refine R_nil ?_
  refine T_keep (kc 1 rfl <| kc 2 rfl <| kc 4 rfl <| kn) rfl ?_
  refine T_seq (T_reg ?_)
  refine R_q _ rfl (v_fieldR (ov rfl) tF69_0) ?_
  refine R_q _ rfl (v_loadS_r (ov rfl) tS3 rfl) ?_
  refine R_q _ rfl (v_move (ov rfl)) ?_
  refine R_q _ rfl (v_sub (ov rfl) (ov rfl) rfl) ?_
  refine R_q _ rfl (v_assign (ov rfl)) ?_
  refine R_nil ?_
  obtain rfl := rt (v := (i64 (x.At - at_))) h
  refine T_ret (retq ?_ (.one (.tmp rfl (Dat.view (.b rfl)))))
  rfl

theorem ok_series_latest {s : api_Series} {at_ : Int} {r : Int} (h : series_latest s at_ = some r) :
    CSpec Tryd.prog gl0 72 [.agg [.int .i64 s.Den, .sl 69 (List.map R69 s.Samples)], .int .i64 at_] (.int .i64 r) := by
  unfold series_latest at h
  replace h := bnd0 h
  refine spec_of (by kernel_rfl) Tryd.func72 rfl rfl ?_
  intro w0 A
  refine T_seq (T_reg ?_)
  refine R_q _ rfl (v_boxD (cva (ov rfl)) rfl tZ_24 rfl) ?_
  refine R_q _ rfl (v_assign (ov rfl)) ?_
  refine R_nil ?_
  refine T_keep (kc 1 rfl <| kc 2 rfl <| kn) rfl ?_
  refine T_seq (T_reg ?_)
  refine R_q _ rfl (v_fieldR (ov rfl) tF24_1) ?_
  refine R_q _ rfl (v_loadS_r (ov rfl) tS22 rfl) ?_
  refine R_q _ rfl (v_move (ov rfl)) ?_
  obtain ⟨y, h_y, h⟩ := bnd h
  refine R_q _ rfl (v_call (ok_slices_BinarySearchFunc_api_Sample_api_Sample_int rfl (fun z0 z1 _ hz => ok_series_latest_1 hz) h_y) (.cons (ov rfl) (.b rfl) <| .cons (ov rfl) (.b rfl) <| .cons (ov rfl) (.fn) <| .nil)) ?_
  refine R_q _ rfl (v_move (ov rfl)) ?_
  refine R_q _ rfl (v_extract (ov rfl) rfl) ?_
  refine R_q _ rfl (v_extract (ov rfl) rfl) ?_
  refine R_q _ rfl (v_assign (ov rfl)) ?_
  refine R_q _ rfl (v_assign (ov rfl)) ?_
  refine R_nil ?_
  refine T_seq ?_
  refine T_keep (kc 5 rfl <| kc 6 rfl <| kn) rfl ?_
  refine T_seq (T_reg ?_)
  refine R_q _ rfl (v_move (ov rfl)) ?_
  refine R_nil ?_
  refine T_keep (kc 5 rfl <| kc 14 rfl <| kn) rfl ?_
  refine T_if h rfl (fun b14 h => ?_) (fun b14 h => ?_)
  · skip
    refine T_keep (kc 5 rfl <| kn) rfl ?_
    refine T_seq (T_reg ?_)
    refine R_q _ rfl (v_move (ov rfl)) ?_
    refine R_q _ rfl (v_assign (ov rfl)) ?_
    refine R_nil ?_
    obtain rfl := rt (v := y.1) h
    refine T_ret (retq ?_ (.one (.tmp rfl (Dat.view (.b rfl)))))
    rfl
  · skip
    refine T_skip ?_
    refine T_keep (kc 5 rfl <| kn) rfl ?_
    refine T_seq (T_reg ?_)
    refine R_q _ rfl (v_move (ov rfl)) ?_
    refine R_q _ rfl (v_sub (ov rfl) (ov rfl) rfl) ?_
    refine R_q _ rfl (v_assign (ov rfl)) ?_
    refine R_nil ?_
    obtain rfl := rt (v := (i64 (y.1 - 1))) h
    refine T_ret (retq ?_ (.one (.tmp rfl (Dat.view (.b rfl)))))
    rfl

theorem ok_series_solid {x : api_Sample} {r : Bool} (h : series_solid x = some r) :
    CSpec Tryd.prog gl0 54 [.agg [.int .i64 x.At, .int .i64 x.N, .int .i64 x.Mark]] (.bool r) := by
  unfold series_solid at h
  replace h := bnd0 h
  refine spec_of (by kernel_rfl) Tryd.func54 rfl rfl ?_
  intro w0 A
  refine T_seq (T_reg ?_)
  refine R_q _ rfl (v_boxD (cva (ov rfl)) rfl tZ_69 rfl) ?_
  refine R_q _ rfl (v_assign (ov rfl)) ?_
  refine R_nil ?_
  refine T_keep (kc 1 rfl <| kc 2 rfl <| kn) rfl ?_
  refine T_seq (T_reg ?_)
  refine R_q _ rfl (v_fieldR (ov rfl) tF69_2) ?_
  refine R_q _ rfl (v_loadS_r (ov rfl) tS3 rfl) ?_
  refine R_q _ rfl (v_geq (ov rfl) (ov rfl)) ?_
  refine R_q _ rfl (v_assign (ov rfl)) ?_
  refine R_nil ?_
  obtain rfl := rt (v := (decide (3 ≤ x.Mark))) h
  refine T_ret (retq ?_ (.one (.tmp rfl (Dat.view (.b rfl)))))
  rfl

theorem ok_series_hold {s : api_Series} {at_ : Int} {long : Int} {r : api_Sample × Bool} (h : series_hold s at_ long = some r) :
    CSpec Tryd.prog gl0 41 [.agg [.int .i64 s.Den, .sl 69 (List.map R69 s.Samples)], .int .i64 at_, .int .i64 long] (.tuple [.agg [.int .i64 r.1.At, .int .i64 r.1.N, .int .i64 r.1.Mark], .bool r.2]) := by
  unfold series_hold at h
  replace h := bnd0 h
  refine spec_of (by kernel_rfl) Tryd.func41 rfl rfl ?_
  intro w0 A
  refine T_seq (T_reg ?_)
  refine R_q _ rfl (v_boxD (cva (ov rfl)) rfl tZ_24 rfl) ?_
  refine R_w _ _ rfl (w_alloc (row := [_, _, _]) 0 rfl tZ69 rfl tZ_69) ?_
  refine R_q _ rfl (v_assign (ov rfl)) ?_
  refine R_nil ?_
  refine T_keep (kc 1 rfl <| kc 2 rfl <| kc 3 rfl <| kc 6 rfl <| kn) rfl ?_
  refine T_seq (T_reg ?_)
  refine R_q _ rfl (v_loadA_r (ov rfl) tA24 rfl rfl) ?_
  refine R_q _ rfl (v_move (ov rfl)) ?_
  obtain ⟨y, h_y, h⟩ := bnd h
  refine R_q _ rfl (v_call (ok_series_latest h_y) (.cons (ov rfl) (.aggB rfl) <| .cons (ov rfl) (.b rfl) <| .nil)) ?_
  refine R_q _ rfl (v_assign (ov rfl)) ?_
  refine R_nil ?_
  refine T_seq ?_
  refine T_keep (kc 1 rfl <| kc 2 rfl <| kc 3 rfl <| kc 6 rfl <| kc 8 rfl <| kn) rfl ?_
  refine T_seq (T_reg ?_)
  refine R_q _ rfl (v_move (ov rfl)) ?_
  refine R_q _ rfl (v_lss (ov rfl) (ov rfl)) ?_
  refine R_q _ rfl (v_move (ov rfl)) ?_
  refine R_q _ rfl (.guarded ((decide (y < 0)) == false) rfl rfl rfl rfl fun h => v_fieldR (ov rfl) tF24_1) ?_
  refine R_q _ rfl (.guarded ((decide (y < 0)) == false) rfl rfl rfl rfl fun h => v_loadS_r (ow rfl h) tS22 rfl) ?_
  refine R_q _ rfl (.guarded ((decide (y < 0)) == false) rfl rfl rfl rfl fun h => v_move (ov rfl)) ?_
  obtain ⟨x, h_x, h⟩ := bnd h
  refine R_q _ rfl (.guarded ((decide (y < 0)) == false) rfl rfl rfl rfl fun h => v_ixSG (ow rfl h) (ow rfl h) tL22 (gdT h_x h)) ?_
  refine R_q _ rfl (.guarded ((decide (y < 0)) == false) rfl rfl rfl rfl fun h => v_loadA_r (ow rfl h) tA69 rfl rfl) ?_
  obtain ⟨y2, h_y2, h⟩ := bnd h
  refine R_q _ rfl (.guarded ((decide (y < 0)) == false) rfl rfl rfl rfl fun h => v_call (ok_series_solid (gdT h_y2 h)) (.cons (ow rfl h) (.aggB rfl) <| .nil)) ?_
  refine R_q _ rfl (.guarded ((decide (y < 0)) == false) rfl rfl rfl rfl fun h => v_not (ow rfl h)) ?_
  refine R_q _ rfl (v_or (ov rfl) (fun hp => ow rfl (gF hp))) ?_
  refine R_q _ rfl (v_move (ov rfl)) ?_
  refine R_q _ rfl (.guarded (((decide (y < 0)) || (!y2)) == false) rfl rfl rfl rfl fun h => v_move (ov rfl)) ?_
  refine R_q _ rfl (.guarded (((decide (y < 0)) || (!y2)) == false) rfl rfl rfl rfl fun h => v_fieldR (ov rfl) tF24_1) ?_
  refine R_q _ rfl (.guarded (((decide (y < 0)) || (!y2)) == false) rfl rfl rfl rfl fun h => v_loadS_r (ow rfl h) tS22 rfl) ?_
  refine R_q _ rfl (.guarded (((decide (y < 0)) || (!y2)) == false) rfl rfl rfl rfl fun h => v_move (ov rfl)) ?_
  obtain ⟨x2, h_x2, h⟩ := bnd h
  refine R_q _ rfl (.guarded (((decide (y < 0)) || (!y2)) == false) rfl rfl rfl rfl fun h => v_ixSG (ow rfl h) (ow rfl h) tL22 (gdT h_x2 h)) ?_
  refine R_q _ rfl (.guarded (((decide (y < 0)) || (!y2)) == false) rfl rfl rfl rfl fun h => v_fieldR (ow rfl h) tF69_0) ?_
  refine R_q _ rfl (.guarded (((decide (y < 0)) || (!y2)) == false) rfl rfl rfl rfl fun h => v_loadS_r (ow rfl h) tS3 rfl) ?_
  refine R_q _ rfl (.guarded (((decide (y < 0)) || (!y2)) == false) rfl rfl rfl rfl fun h => v_sub (ow rfl h) (ow rfl h) rfl) ?_
  refine R_q _ rfl (.guarded (((decide (y < 0)) || (!y2)) == false) rfl rfl rfl rfl fun h => v_move (ov rfl)) ?_
  refine R_q _ rfl (.guarded (((decide (y < 0)) || (!y2)) == false) rfl rfl rfl rfl fun h => v_gtr (ow rfl h) (ow rfl h)) ?_
  refine R_q _ rfl (v_or (ov rfl) (fun hp => ow rfl (gF hp))) ?_
  refine R_nil ?_
  refine T_keep (kc 3 rfl <| kc 6 rfl <| kc 8 rfl <| kc 34 rfl <| kn) rfl ?_
  refine T_if h rfl (fun b34 h => ?_) (fun b34 h => ?_)
  · skip
    refine T_keep (kc 6 rfl <| kn) rfl ?_
    refine T_seq (T_reg ?_)
    refine R_q _ rfl (v_build (ys := [_, _, _]) tPL69 tHA69 tZ69 (.nil) rfl) ?_
    refine R_w _ _ rfl (w_store (ov rfl) (ov rfl) (cells_agg tA69 rfl) rfl rfl rfl (Nat.le_of_ble_eq_true rfl) (cell1_all rfl) rfl) ?_
    refine R_q _ rfl (v_assign (ov rfl)) ?_
    refine R_nil ?_
    obtain rfl := rt (v := ((api_Sample.mk 0 0 0), false)) h
    refine T_ret (retq ?_ (.two (.agg rfl rfl rfl rfl tA69 rfl rfl (pwB rfl)) (.tmp rfl (Dat.view (.b rfl)))))
    rfl
  · skip
    refine T_skip ?_
    refine T_keep (kc 3 rfl <| kc 6 rfl <| kc 8 rfl <| kn) rfl ?_
    refine T_seq (T_reg ?_)
    refine R_q _ rfl (v_fieldR (ov rfl) tF24_1) ?_
    refine R_q _ rfl (v_loadS_r (ov rfl) tS22 rfl) ?_
    refine R_q _ rfl (v_move (ov rfl)) ?_
    obtain ⟨x3, h_x3, h⟩ := bnd h
    refine R_q _ rfl (v_ixSG (ov rfl) (ov rfl) tL22 h_x3) ?_
    refine R_q _ rfl (v_loadA_r (ov rfl) tA69 rfl rfl) ?_
    refine R_w _ _ rfl (w_store (ov rfl) (ov rfl) (cells_agg tA69 rfl) rfl rfl rfl (Nat.le_of_ble_eq_true rfl) (cell1_all rfl) rfl) ?_
    refine R_q _ rfl (v_assign (ov rfl)) ?_
    refine R_nil ?_
    obtain rfl := rt (v := (x3, true)) h
    refine T_ret (retq ?_ (.two (.agg rfl rfl rfl rfl tA69 rfl rfl (pwB rfl)) (.tmp rfl (Dat.view (.b rfl)))))
    rfl

theorem ok_series_size {n : Int} {r : Int} (h : series_size n = some r) :
    CSpec Tryd.prog gl0 49 [.int .i64 n] (.int .i64 r) := by
  unfold series_size at h
  replace h := bnd0 h
  refine spec_of (by kernel_rfl) Tryd.func49 rfl rfl ?_
  intro w0 A
  refine T_seq (T_reg ?_)
  refine R_q _ rfl (v_assign (ov rfl)) ?_
  refine R_nil ?_
  refine T_seq (T_reg ?_)
  refine R_q _ rfl (v_move (ov rfl)) ?_
  refine R_q _ rfl (v_move (ov rfl)) ?_
  refine R_q _ rfl (v_neg (ov rfl) rfl) ?_
  refine R_q _ rfl (v_max (ov rfl) (ov rfl) rfl) ?_
  refine R_q _ rfl (v_assign (ov rfl)) ?_
  refine R_nil ?_
  obtain rfl := rt (v := (max n (i64 (-n)))) h
  refine T_ret (retq ?_ (.one (.tmp rfl (Dat.view (.b rfl)))))
  rfl

theorem ok_series_combined {op : Int} {a : Int} {b : Int} {r : Int} (h : series_combined op a b = some r) :
    CSpec Tryd.prog gl0 60 [.int .i64 op, .int .i64 a, .int .i64 b] (.int .i64 r) := by
  unfold series_combined at h
  replace h := bnd0 h
  refine spec_of (by kernel_rfl) Tryd.func60 rfl rfl ?_
  intro w0 A
  refine T_seq (T_reg ?_)
  refine R_q _ rfl (v_assign (ov rfl)) ?_
  refine R_nil ?_
  refine T_seq ?_
  refine T_keep (kc 0 rfl <| kc 1 rfl <| kc 2 rfl <| kn) rfl ?_
  refine T_seq (T_reg ?_)
  refine R_q _ rfl (v_move (ov rfl)) ?_
  refine R_nil ?_
  refine T_block ?_
  refine T_keep (kc 1 rfl <| kc 2 rfl <| kc 7 rfl <| kn) rfl ?_
  refine T_seq (T_reg ?_)
  refine R_q _ rfl (v_eql (ov rfl) (ov rfl)) ?_
  refine R_q _ rfl (v_assign (ov rfl)) ?_
  refine R_nil ?_
  refine T_keep (kc 1 rfl <| kc 2 rfl <| kc 7 rfl <| kc 8 rfl <| kn) rfl ?_
  refine T_if h rfl (fun b8 h => ?_) (fun b8 h => ?_)
  · skip
    refine T_keep (kc 1 rfl <| kc 2 rfl <| kn) rfl ?_
    refine T_seq (T_reg ?_)
    refine R_q _ rfl (v_move (ov rfl)) ?_
    refine R_q _ rfl (v_move (ov rfl)) ?_
    refine R_q _ rfl (v_add (ov rfl) (ov rfl) rfl) ?_
    refine R_q _ rfl (v_assign (ov rfl)) ?_
    refine R_nil ?_
    obtain rfl := rt (v := (i64 (a + b))) h
    refine T_ret (retq ?_ (.one (.tmp rfl (Dat.view (.b rfl)))))
    rfl
  · skip
    refine T_keep (kc 1 rfl <| kc 2 rfl <| kc 7 rfl <| kn) rfl ?_
    refine T_seq (T_reg ?_)
    refine R_q _ rfl (v_eql (ov rfl) (ov rfl)) ?_
    refine R_q _ rfl (v_assign (ov rfl)) ?_
    refine R_nil ?_
    refine T_keep (kc 1 rfl <| kc 2 rfl <| kc 7 rfl <| kc 13 rfl <| kn) rfl ?_
    refine T_if h rfl (fun b13 h => ?_) (fun b13 h => ?_)
    · skip
      refine T_keep (kc 1 rfl <| kc 2 rfl <| kn) rfl ?_
      refine T_seq (T_reg ?_)
      refine R_q _ rfl (v_move (ov rfl)) ?_
      refine R_q _ rfl (v_move (ov rfl)) ?_
      refine R_q _ rfl (v_sub (ov rfl) (ov rfl) rfl) ?_
      refine R_q _ rfl (v_assign (ov rfl)) ?_
      refine R_nil ?_
      obtain rfl := rt (v := (i64 (a - b))) h
      refine T_ret (retq ?_ (.one (.tmp rfl (Dat.view (.b rfl)))))
      rfl
    · skip
      refine T_keep (kc 1 rfl <| kc 2 rfl <| kc 7 rfl <| kn) rfl ?_
      refine T_seq (T_reg ?_)
      refine R_q _ rfl (v_eql (ov rfl) (ov rfl)) ?_
      refine R_q _ rfl (v_assign (ov rfl)) ?_
      refine R_nil ?_
      refine T_keep (kc 1 rfl <| kc 2 rfl <| kc 7 rfl <| kc 18 rfl <| kn) rfl ?_
      refine T_if h rfl (fun b18 h => ?_) (fun b18 h => ?_)
      · skip
        refine T_keep (kc 1 rfl <| kc 2 rfl <| kn) rfl ?_
        refine T_seq (T_reg ?_)
        refine R_q _ rfl (v_move (ov rfl)) ?_
        refine R_q _ rfl (v_move (ov rfl)) ?_
        refine R_q _ rfl (v_min (ov rfl) (ov rfl) rfl) ?_
        refine R_q _ rfl (v_assign (ov rfl)) ?_
        refine R_nil ?_
        obtain rfl := rt (v := (min a b)) h
        refine T_ret (retq ?_ (.one (.tmp rfl (Dat.view (.b rfl)))))
        rfl
      · skip
        refine T_keep (kc 1 rfl <| kc 2 rfl <| kc 7 rfl <| kn) rfl ?_
        refine T_seq (T_reg ?_)
        refine R_q _ rfl (v_eql (ov rfl) (ov rfl)) ?_
        refine R_q _ rfl (v_assign (ov rfl)) ?_
        refine R_nil ?_
        refine T_keep (kc 1 rfl <| kc 2 rfl <| kc 23 rfl <| kn) rfl ?_
        refine T_if h rfl (fun b23 h => ?_) (fun b23 h => ?_)
        · skip
          refine T_keep (kc 1 rfl <| kc 2 rfl <| kn) rfl ?_
          refine T_seq (T_reg ?_)
          refine R_q _ rfl (v_move (ov rfl)) ?_
          refine R_q _ rfl (v_move (ov rfl)) ?_
          refine R_q _ rfl (v_max (ov rfl) (ov rfl) rfl) ?_
          refine R_q _ rfl (v_assign (ov rfl)) ?_
          refine R_nil ?_
          obtain rfl := rt (v := (max a b)) h
          refine T_ret (retq ?_ (.one (.tmp rfl (Dat.view (.b rfl)))))
          rfl
        · skip
          refine T_skip ?_
          refine T_keep (kc 1 rfl <| kc 2 rfl <| kn) rfl ?_
          refine T_seq (T_reg ?_)
          refine R_q _ rfl (v_move (ov rfl)) ?_
          refine R_q _ rfl (v_move (ov rfl)) ?_
          refine R_q _ rfl (v_sub (ov rfl) (ov rfl) rfl) ?_
          obtain ⟨y, h_y, h⟩ := bnd h
          refine R_q _ rfl (v_call (ok_series_size h_y) (.cons (ov rfl) (.b rfl) <| .nil)) ?_
          refine R_q _ rfl (v_assign (ov rfl)) ?_
          refine R_nil ?_
          obtain rfl := rt (v := y) h
          refine T_ret (retq ?_ (.one (.tmp rfl (Dat.view (.b rfl)))))
          rfl

theorem ok_series_Combine {a : api_Series} {b : api_Series} {op : Int} {long : Int} {r : api_Series × Int} (h : series_Combine a b op long = some r) :
    CSpec Tryd.prog gl0 23 [.agg [.int .i64 a.Den, .sl 69 (List.map R69 a.Samples)], .agg [.int .i64 b.Den, .sl 69 (List.map R69 b.Samples)], .int .i64 op, .int .i64 long] (.tuple [.agg [.int .i64 r.1.Den, .sl 69 (List.map R69 r.1.Samples)], .int .i64 r.2]) := by
  unfold series_Combine at h
  replace h := bnd0 h
  refine spec_of (by kernel_rfl) Tryd.func23 rfl rfl ?_
  intro w0 A
  refine T_seq (T_reg ?_)
  refine R_q _ rfl (v_boxD (cva (ov rfl)) rfl tZ_24 rfl) ?_
  refine R_q _ rfl (v_boxD (cva (ov rfl)) rfl tZ_24 rfl) ?_
  refine R_w _ _ rfl (w_alloc (row := [_, _]) 0 rfl tZ24 rfl tZ_24) ?_
  refine R_q _ rfl (v_assign (ov rfl)) ?_
  refine R_nil ?_
  refine T_joinG (fun j => (.inr j)) (t0 ⟨[(2, .int .i64 op), (3, .int .i64 long), (4, .rp [.int .i64 a.Den, .sl 69 (List.map R69 a.Samples)] 0), (5, .rp [.int .i64 b.Den, .sl 69 (List.map R69 b.Samples)] 0), (8, .ptr 0 1 0 0)], [some ⟨24, [[.int .i64 0, .nils]]⟩]⟩) h (fun h => ?_) (fun j h => ?_)
  · skip
    refine T_keep (kc 2 rfl <| kc 3 rfl <| kc 4 rfl <| kc 5 rfl <| kc 8 rfl <| kn) rfl ?_
    refine T_seq (T_reg ?_)
    refine R_q _ rfl (v_loadA_r (ov rfl) tA24 rfl rfl) ?_
    refine R_q _ rfl (v_loadA_r (ov rfl) tA24 rfl rfl) ?_
    refine R_q (.sl 24 (List.map R24 ([a, b] : List api_Series))) rfl (v_lit tL74 (.cons (cva (ov rfl)) rfl (pwD rfl) <| .cons (cva (ov rfl)) rfl (pwD rfl) <| .nil) rfl rfl) ?_
    refine R_q _ rfl (v_len (slv_sl (ov rfl) tZ_24) tL74 (len_map _ _)) ?_
    refine R_q _ rfl (v_move (ov rfl)) ?_
    refine R_nil ?_
    refine T_block ?_
    obtain ⟨r1, hl1, ho1⟩ := bndL h
    refine T_loopG _ (t1 fun i => ⟨[(2, .int .i64 op), (3, .int .i64 long), (4, .rp [.int .i64 a.Den, .sl 69 (List.map R69 a.Samples)] 0), (5, .rp [.int .i64 b.Den, .sl 69 (List.map R69 b.Samples)] 0), (8, .ptr 0 1 0 0), (21, .sl 24 (List.map R24 ([a, b] : List api_Series))), (22, .int .i64 (([a, b] : List api_Series).length : Int)), (23, .int .i64 i)], [some ⟨24, [[.int .i64 0, .nils]]⟩]⟩) _ hl1 (Ent.sel [some 0] (sd 2 rfl rfl <| sd 3 rfl rfl <| sd 4 rfl rfl <| sd 5 rfl rfl <| sr 8 rfl (.ptr _ _ _ rfl) <| sd 21 rfl rfl <| sd 22 rfl rfl <| sd 23 rfl rfl <| sn) (.cons rfl (ro1 (by exact tZ_24.symm) (rld rfl)) <| .nil) rfl rfl) (fun n1 s1 h => ?_)
    obtain ⟨i, rfl⟩ : ∃ x, x = s1 := ⟨_, rfl⟩
    replace h := t1i h
    refine t1T ?_
    unfold series_Combine_L1 at h
    refine T_seq (T_reg ?_)
    refine R_q _ rfl (v_lss (ov rfl) (ov rfl)) ?_
    refine R_nil ?_
    refine T_seq ?_
    refine T_if h rfl (fun b24 h => ?_) (fun b24 h => ?_)
    · skip
      refine T_skip ?_
      refine T_seq ?_
      refine T_block ?_
      refine T_keep (kc 2 rfl <| kc 3 rfl <| kc 4 rfl <| kc 5 rfl <| kc 8 rfl <| kc 21 rfl <| kc 22 rfl <| kc 23 rfl <| kn) rfl ?_
      refine T_seq (T_reg ?_)
      obtain ⟨x, h_x, h⟩ := bnd h
      refine R_q _ rfl (v_ixSG (ov rfl) (ov rfl) tL74 h_x) ?_
      refine R_q _ rfl (v_loadA_r (ov rfl) tA24 rfl rfl) ?_
      refine R_w _ _ rfl (w_alloc (row := [_, _]) 1 rfl tZ24 rfl tZ_24) ?_
      refine R_w _ _ rfl (w_store (ov rfl) (ov rfl) (cells_agg tA24 rfl) rfl rfl rfl (Nat.le_of_ble_eq_true rfl) (cell1_all rfl) rfl) ?_
      refine R_nil ?_
      refine T_keep (kc 2 rfl <| kc 3 rfl <| kc 4 rfl <| kc 5 rfl <| kc 8 rfl <| kc 11 rfl <| kc 21 rfl <| kc 22 rfl <| kc 23 rfl <| kn) rfl ?_
      refine T_seq (T_reg ?_)
      refine R_q _ rfl (v_loadA (ov rfl) rfl rfl rfl tA24 rfl rfl) ?_
      obtain ⟨y, h_y, h⟩ := bnd h
      refine R_q _ rfl (v_call (ok_series_Check h_y) (.cons (ov rfl) (.aggB rfl) <| .nil)) ?_
      refine R_q _ rfl (v_assign (ov rfl)) ?_
      refine R_nil ?_
      refine T_keep (kc 2 rfl <| kc 3 rfl <| kc 4 rfl <| kc 5 rfl <| kc 8 rfl <| kc 12 rfl <| kc 21 rfl <| kc 22 rfl <| kc 23 rfl <| kn) rfl ?_
      refine T_seq (T_reg ?_)
      refine R_q _ rfl (v_move (ov rfl)) ?_
      refine R_q _ rfl (v_neq (ov rfl) (ov rfl)) ?_
      refine R_nil ?_
      refine T_keep (kc 2 rfl <| kc 3 rfl <| kc 4 rfl <| kc 5 rfl <| kc 8 rfl <| kc 12 rfl <| kc 21 rfl <| kc 22 rfl <| kc 23 rfl <| kc 30 rfl <| kn) rfl ?_
      refine T_if h rfl (fun b30 h => ?_) (fun b30 h => ?_)
      · skip
        refine T_keep (kc 8 rfl <| kc 12 rfl <| kn) rfl ?_
        refine T_seq (T_reg ?_)
        refine R_q _ rfl (v_build (ys := [_, _]) tPL24 tHA24 tZ24 (.nil) rfl) ?_
        refine R_q _ rfl (v_move (ov rfl)) ?_
        refine R_w _ _ rfl (w_store (ov rfl) (ov rfl) (cells_agg tA24 rfl) rfl rfl rfl (Nat.le_of_ble_eq_true rfl) (cell1_all rfl) rfl) ?_
        refine R_q _ rfl (v_assign (ov rfl)) ?_
        refine R_nil ?_
        rw [lx h] at ho1
        replace h := ho1
        obtain rfl := rt (v := ((api_Series.mk 0 []), y)) h
        refine T_ret (retq ?_ (.two (.agg rfl rfl rfl rfl tA24 rfl rfl (.cons (Dat.view (.b rfl)) <| .cons (View.nils 69) <| .nil)) (.tmp rfl (Dat.view (.b rfl)))))
        rfl
      · skip
        refine T_skip ?_
        refine T_keep (kc 2 rfl <| kc 3 rfl <| kc 4 rfl <| kc 5 rfl <| kc 8 rfl <| kc 21 rfl <| kc 22 rfl <| kc 23 rfl <| kn) rfl ?_
        refine T_reg ?_
        refine R_q _ rfl (v_add (ov rfl) (ov rfl) rfl) ?_
        refine R_q _ rfl (v_move (ov rfl)) ?_
        refine R_nil ?_
        exact ⟨(i64 (i + 1)), h, Ent.sel [some 0] (sd 2 rfl rfl <| sd 3 rfl rfl <| sd 4 rfl rfl <| sd 5 rfl rfl <| sr 8 rfl (.ptr _ _ _ rfl) <| sd 21 rfl rfl <| sd 22 rfl rfl <| sd 23 rfl rfl <| sn) (.cons rfl (ro1 (by exact tZ_24.symm) (rld rfl)) <| .nil) rfl rfl⟩
    · skip
      refine T_exit ?_
      rw [lx h] at ho1
      replace h := ho1
      exact ⟨(), h, Ent.sel [some 0] (sd 2 rfl rfl <| sd 3 rfl rfl <| sd 4 rfl rfl <| sd 5 rfl rfl <| sr 8 rfl (.ptr _ _ _ rfl) <| sn) (.cons rfl (ro1 (by exact tZ_24.symm) (rld rfl)) <| .nil) rfl rfl⟩
  · skip
    replace h := elr h
    cases j
    replace h := t0i h
    refine t0T ?_
    refine T_seq ?_
    refine T_block ?_
    refine T_seq (T_reg ?_)
    refine R_q _ rfl (v_fieldR (ov rfl) tF24_0) ?_
    refine R_q _ rfl (v_loadS_r (ov rfl) tS3 rfl) ?_
    refine R_q _ rfl (v_fieldR (ov rfl) tF24_0) ?_
    refine R_q _ rfl (v_loadS_r (ov rfl) tS3 rfl) ?_
    refine R_q _ rfl (v_neq (ov rfl) (ov rfl)) ?_
    refine R_q _ rfl (v_assign (ov rfl)) ?_
    refine R_nil ?_
    refine T_keep (kc 2 rfl <| kc 3 rfl <| kc 4 rfl <| kc 5 rfl <| kc 8 rfl <| kc 34 rfl <| kn) rfl ?_
    refine T_if h rfl (fun b34 h => ?_) (fun b34 h => ?_)
    · skip
      refine T_keep (kc 8 rfl <| kn) rfl ?_
      refine T_seq (T_reg ?_)
      refine R_q _ rfl (v_build (ys := [_, _]) tPL24 tHA24 tZ24 (.nil) rfl) ?_
      refine R_w _ _ rfl (w_store (ov rfl) (ov rfl) (cells_agg tA24 rfl) rfl rfl rfl (Nat.le_of_ble_eq_true rfl) (cell1_all rfl) rfl) ?_
      refine R_q _ rfl (v_assign (ov rfl)) ?_
      refine R_nil ?_
      obtain rfl := rt (v := ((api_Series.mk 0 []), 2)) h
      refine T_ret (retq ?_ (.two (.agg rfl rfl rfl rfl tA24 rfl rfl (.cons (Dat.view (.b rfl)) <| .cons (View.nils 69) <| .nil)) (.tmp rfl (Dat.view (.b rfl)))))
      rfl
    · skip
      refine T_keep (kc 2 rfl <| kc 3 rfl <| kc 4 rfl <| kc 5 rfl <| kc 8 rfl <| kn) rfl ?_
      refine T_seq (T_reg ?_)
      refine R_q _ rfl (v_move (ov rfl)) ?_
      obtain ⟨y2, h_y2, h⟩ := bnd h
      refine R_q _ rfl (v_call (ok_series_within h_y2) (.cons (ov rfl) (.b rfl) <| .cons (ov rfl) (.b rfl) <| .cons (ov rfl) (.b rfl) <| .nil)) ?_
      refine R_q _ rfl (v_not (ov rfl)) ?_
      refine R_q _ rfl (v_assign (ov rfl)) ?_
      refine R_nil ?_
      refine T_keep (kc 2 rfl <| kc 3 rfl <| kc 4 rfl <| kc 5 rfl <| kc 8 rfl <| kc 41 rfl <| kn) rfl ?_
      refine T_if h rfl (fun b41 h => ?_) (fun b41 h => ?_)
      · skip
        refine T_keep (kc 8 rfl <| kn) rfl ?_
        refine T_seq (T_reg ?_)
        refine R_q _ rfl (v_build (ys := [_, _]) tPL24 tHA24 tZ24 (.nil) rfl) ?_
        refine R_w _ _ rfl (w_store (ov rfl) (ov rfl) (cells_agg tA24 rfl) rfl rfl rfl (Nat.le_of_ble_eq_true rfl) (cell1_all rfl) rfl) ?_
        refine R_q _ rfl (v_assign (ov rfl)) ?_
        refine R_nil ?_
        obtain rfl := rt (v := ((api_Series.mk 0 []), 7)) h
        refine T_ret (retq ?_ (.two (.agg rfl rfl rfl rfl tA24 rfl rfl (.cons (Dat.view (.b rfl)) <| .cons (View.nils 69) <| .nil)) (.tmp rfl (Dat.view (.b rfl)))))
        rfl
      · skip
        refine T_keep (kc 2 rfl <| kc 3 rfl <| kc 4 rfl <| kc 5 rfl <| kc 8 rfl <| kn) rfl ?_
        refine T_seq (T_reg ?_)
        refine R_q _ rfl (v_move (ov rfl)) ?_
        obtain ⟨y3, h_y3, h⟩ := bnd h
        refine R_q _ rfl (v_call (ok_series_within h_y3) (.cons (ov rfl) (.b rfl) <| .cons (ov rfl) (.b rfl) <| .cons (ov rfl) (.b rfl) <| .nil)) ?_
        refine R_q _ rfl (v_not (ov rfl)) ?_
        refine R_q _ rfl (v_assign (ov rfl)) ?_
        refine R_nil ?_
        refine T_keep (kc 2 rfl <| kc 3 rfl <| kc 4 rfl <| kc 5 rfl <| kc 8 rfl <| kc 46 rfl <| kn) rfl ?_
        refine T_if h rfl (fun b46 h => ?_) (fun b46 h => ?_)
        · skip
          refine T_keep (kc 8 rfl <| kn) rfl ?_
          refine T_seq (T_reg ?_)
          refine R_q _ rfl (v_build (ys := [_, _]) tPL24 tHA24 tZ24 (.nil) rfl) ?_
          refine R_w _ _ rfl (w_store (ov rfl) (ov rfl) (cells_agg tA24 rfl) rfl rfl rfl (Nat.le_of_ble_eq_true rfl) (cell1_all rfl) rfl) ?_
          refine R_q _ rfl (v_assign (ov rfl)) ?_
          refine R_nil ?_
          obtain rfl := rt (v := ((api_Series.mk 0 []), 9)) h
          refine T_ret (retq ?_ (.two (.agg rfl rfl rfl rfl tA24 rfl rfl (.cons (Dat.view (.b rfl)) <| .cons (View.nils 69) <| .nil)) (.tmp rfl (Dat.view (.b rfl)))))
          rfl
        · skip
          refine T_skip ?_
          refine T_keep (kc 2 rfl <| kc 3 rfl <| kc 4 rfl <| kc 5 rfl <| kc 8 rfl <| kn) rfl ?_
          refine T_seq (T_reg ?_)
          refine R_q _ rfl (v_fieldR (ov rfl) tF24_0) ?_
          refine R_q _ rfl (v_loadS_r (ov rfl) tS3 rfl) ?_
          refine R_q _ rfl (v_build (ys := [_, _]) tPL24 tHA24 tZ24 (.cons (cvs (ov rfl) (cell1_b rfl)) <| .nil) rfl) ?_
          refine R_w _ _ rfl (w_alloc (row := [_, _]) 1 rfl tZ24 rfl tZ_24) ?_
          refine R_w _ _ rfl (w_store (ov rfl) (ov rfl) (cells_agg tA24 rfl) rfl rfl rfl (Nat.le_of_ble_eq_true rfl) (cell1_all rfl) rfl) ?_
          refine R_nil ?_
          refine T_joinG (fun j => (.inr j)) (t1 fun Samples => ⟨[(8, .ptr 0 1 0 0), (13, .ptr 1 1 0 0)], [some ⟨24, [[.int .i64 0, .nils]]⟩, some ⟨24, [[.int .i64 a.Den, .own 2 Samples.length]]⟩, some ⟨69, List.map R69 Samples⟩]⟩) h (fun h => ?_) (fun j h => ?_)
          · skip
            refine T_keep (kc 2 rfl <| kc 3 rfl <| kc 4 rfl <| kc 5 rfl <| kc 8 rfl <| kc 13 rfl <| kn) rfl ?_
            refine T_seq (T_reg ?_)
            refine R_q _ rfl (v_fieldR (ov rfl) tF24_1) ?_
            refine R_q _ rfl (v_loadS_r (ov rfl) tS22 rfl) ?_
            refine R_q _ rfl (v_len (slv_sl (ov rfl) tZ_69) tL22 (len_map _ _)) ?_
            refine R_q _ rfl (v_move (ov rfl)) ?_
            refine R_nil ?_
            refine T_block ?_
            obtain ⟨r2, hl2, ho2⟩ := bndL h
            refine T_loopG _ (t2 fun Samples2 i2 => ⟨[(2, .int .i64 op), (3, .int .i64 long), (5, .rp [.int .i64 b.Den, .sl 69 (List.map R69 b.Samples)] 0), (8, .ptr 0 1 0 0), (13, .ptr 1 1 0 0), (55, .sl 69 (List.map R69 a.Samples)), (56, .int .i64 (a.Samples.length : Int)), (57, .int .i64 i2)], [some ⟨24, [[.int .i64 0, .nils]]⟩, some ⟨24, [[.int .i64 a.Den, .own 2 Samples2.length]]⟩, some ⟨69, List.map R69 Samples2⟩]⟩) _ hl2 (Ent.sel [some 0, some 1, none] (sd 2 rfl rfl <| sd 3 rfl rfl <| sd 5 rfl rfl <| sr 8 rfl (.ptr _ _ _ rfl) <| sr 13 rfl (.ptr _ _ _ rfl) <| sd 55 rfl rfl <| sd 56 rfl rfl <| sd 57 rfl rfl <| sn) (.cons rfl (ro1 (by exact tZ_24.symm) (rld rfl)) <| .cons rfl (ro1 (by exact tZ_24.symm) (rlc (.dat rfl) <| rlc (.row rfl) <| rln)) <| .row 69 <| .nil) rfl rfl) (fun n2 s2 h => ?_)
            obtain ⟨Samples2, i2⟩ := s2
            replace h := t2i h
            refine t2T ?_
            unfold series_Combine_L2 at h
            refine T_seq (T_reg ?_)
            refine R_q _ rfl (v_lss (ov rfl) (ov rfl)) ?_
            refine R_nil ?_
            refine T_seq ?_
            refine T_if h rfl (fun b58 h => ?_) (fun b58 h => ?_)
            · skip
              refine T_skip ?_
              refine T_seq ?_
              refine T_block ?_
              refine T_keep (kc 2 rfl <| kc 3 rfl <| kc 5 rfl <| kc 8 rfl <| kc 13 rfl <| kc 55 rfl <| kc 56 rfl <| kc 57 rfl <| kn) rfl ?_
              refine T_seq (T_reg ?_)
              obtain ⟨x2, h_x2, h⟩ := bnd h
              refine R_q _ rfl (v_ixSG (ov rfl) (ov rfl) tL22 h_x2) ?_
              refine R_q _ rfl (v_loadA_r (ov rfl) tA69 rfl rfl) ?_
              refine R_w _ _ rfl (w_alloc (row := [_, _, _]) 3 rfl tZ69 rfl tZ_69) ?_
              refine R_w _ _ rfl (w_store (ov rfl) (ov rfl) (cells_agg tA69 rfl) rfl rfl rfl (Nat.le_of_ble_eq_true rfl) (cell1_all rfl) rfl) ?_
              refine R_nil ?_
              refine T_keep (kc 2 rfl <| kc 3 rfl <| kc 5 rfl <| kc 8 rfl <| kc 13 rfl <| kc 15 rfl <| kc 55 rfl <| kc 56 rfl <| kc 57 rfl <| kn) rfl ?_
              refine T_seq (T_reg ?_)
              refine R_q _ rfl (v_loadA_r (ov rfl) tA24 rfl rfl) ?_
              refine R_q _ rfl (v_fieldP (ov rfl) rfl rfl tF69_0) ?_
              refine R_q _ rfl (v_loadS (ov rfl) rfl rfl rfl tS3 rfl) ?_
              refine R_q _ rfl (v_move (ov rfl)) ?_
              obtain ⟨y4, h_y4, h⟩ := bnd h
              refine R_q _ rfl (v_call (ok_series_hold h_y4) (.cons (ov rfl) (.aggB rfl) <| .cons (ov rfl) (.b rfl) <| .cons (ov rfl) (.b rfl) <| .nil)) ?_
              refine R_q _ rfl (v_move (ov rfl)) ?_
              refine R_q _ rfl (v_extract (ov rfl) rfl) ?_
              refine R_q _ rfl (v_extract (ov rfl) rfl) ?_
              refine R_w _ _ rfl (w_alloc (row := [_, _, _]) 4 rfl tZ69 rfl tZ_69) ?_
              refine R_w _ _ rfl (w_store (ov rfl) (ov rfl) (cells_agg tA69 rfl) rfl rfl rfl (Nat.le_of_ble_eq_true rfl) (cell1_all rfl) rfl) ?_
              refine R_q _ rfl (v_assign (ov rfl)) ?_
              refine R_nil ?_
              refine T_keep (kc 2 rfl <| kc 3 rfl <| kc 5 rfl <| kc 8 rfl <| kc 13 rfl <| kc 15 rfl <| kc 16 rfl <| kc 17 rfl <| kc 55 rfl <| kc 56 rfl <| kc 57 rfl <| kn) rfl ?_
              refine T_seq (T_reg ?_)
              refine R_q _ rfl (v_fieldP (ov rfl) rfl rfl tF69_0) ?_
              refine R_q _ rfl (v_loadS (ov rfl) rfl rfl rfl tS3 rfl) ?_
              refine R_q _ rfl (v_build (ys := [_, _, _]) tPL69 tHA69 tZ69 (.cons (cvs (ov rfl) (cell1_b rfl)) <| .nil) rfl) ?_
              refine R_w _ _ rfl (w_alloc (row := [_, _, _]) 5 rfl tZ69 rfl tZ_69) ?_
              refine R_w _ _ rfl (w_store (ov rfl) (ov rfl) (cells_agg tA69 rfl) rfl rfl rfl (Nat.le_of_ble_eq_true rfl) (cell1_all rfl) rfl) ?_
              refine R_nil ?_
              refine T_joinG id (t1 fun z => ⟨[(2, .int .i64 op), (3, .int .i64 long), (5, .rp [.int .i64 b.Den, .sl 69 (List.map R69 b.Samples)] 0), (8, .ptr 0 1 0 0), (13, .ptr 1 1 0 0), (18, .ptr 3 1 0 0), (55, .sl 69 (List.map R69 a.Samples)), (56, .int .i64 (a.Samples.length : Int)), (57, .int .i64 i2)], [some ⟨24, [[.int .i64 0, .nils]]⟩, some ⟨24, [[.int .i64 a.Den, .own 2 Samples2.length]]⟩, some ⟨69, List.map R69 Samples2⟩, some ⟨69, [[.int .i64 z.At, .int .i64 z.N, .int .i64 z.Mark]]⟩]⟩) h (fun h => ?_) (fun j h => ?_)
              · skip
                refine T_keep (kc 2 rfl <| kc 3 rfl <| kc 5 rfl <| kc 8 rfl <| kc 13 rfl <| kc 15 rfl <| kc 16 rfl <| kc 17 rfl <| kc 18 rfl <| kc 55 rfl <| kc 56 rfl <| kc 57 rfl <| kn) rfl ?_
                refine T_seq (T_reg ?_)
                refine R_q _ rfl (v_loadA (ov rfl) rfl rfl rfl tA69 rfl rfl) ?_
                obtain ⟨y5, h_y5, h⟩ := bnd h
                refine R_q _ rfl (v_call (ok_series_solid h_y5) (.cons (ov rfl) (.aggB rfl) <| .nil)) ?_
                refine R_q _ rfl (v_move (ov rfl)) ?_
                refine R_q _ rfl (.guarded (y5 == true) rfl rfl rfl rfl fun h => v_move (ov rfl)) ?_
                refine R_q _ rfl (v_and (ov rfl) (fun hp => ow rfl (gT hp))) ?_
                refine R_nil ?_
                refine T_keep (kc 2 rfl <| kc 3 rfl <| kc 5 rfl <| kc 8 rfl <| kc 13 rfl <| kc 15 rfl <| kc 16 rfl <| kc 18 rfl <| kc 55 rfl <| kc 56 rfl <| kc 57 rfl <| kc 76 rfl <| kn) rfl ?_
                refine T_if h rfl (fun b76 h => ?_) (fun b76 h => ?_)
                · skip
                  refine T_keep (kc 2 rfl <| kc 3 rfl <| kc 5 rfl <| kc 8 rfl <| kc 13 rfl <| kc 15 rfl <| kc 16 rfl <| kc 18 rfl <| kc 55 rfl <| kc 56 rfl <| kc 57 rfl <| kn) rfl ?_
                  refine T_draw (cw := ⟨false, true, [some ⟨24, [[.int .i64 0, .nils]]⟩, some ⟨24, [[.int .i64 a.Den, .own 2 Samples2.length]]⟩, some ⟨69, List.map R69 Samples2⟩, some ⟨69, [[.int .i64 x2.At, .int .i64 x2.N, .int .i64 x2.Mark]]⟩, some ⟨69, [[.int .i64 y4.1.At, .int .i64 y4.1.N, .int .i64 y4.1.Mark]]⟩, some ⟨69, [[.int .i64 x2.At, .int .i64 0, .int .i64 0]]⟩], [], [5]⟩) (by kernel_rfl) ?_
                  refine D_free 0 _ rfl (by kernel_rfl) rfl rfl (fun hp' => v_move (ov rfl)) ?_
                  refine D_read 1 _ rfl (by kernel_rfl) rfl rfl rfl (EL.ext (.keep <| .keep <| .keep <| .keep <| .keep <| .wr rfl rfl rfl <| .nil)) (fun hp' hx => v_fieldP (ov rfl) (hx.get rfl rfl) rfl tF69_1) ?_
                  refine D_read 2 _ rfl (by kernel_rfl) rfl rfl rfl (EL.ext (.keep <| .keep <| .keep <| .keep <| .keep <| .wr rfl rfl rfl <| .nil)) (fun hp' hx => v_loadS (ov rfl) (hx.get rfl rfl) rfl rfl tS3 rfl) ?_
                  refine D_read 3 _ rfl (by kernel_rfl) rfl rfl rfl (EL.ext (.keep <| .keep <| .keep <| .keep <| .keep <| .wr rfl rfl rfl <| .nil)) (fun hp' hx => v_fieldP (ov rfl) (hx.get rfl rfl) rfl tF69_1) ?_
                  refine D_read 4 _ rfl (by kernel_rfl) rfl rfl rfl (EL.ext (.keep <| .keep <| .keep <| .keep <| .keep <| .wr rfl rfl rfl <| .nil)) (fun hp' hx => v_loadS (ov rfl) (hx.get rfl rfl) rfl rfl tS3 rfl) ?_
                  obtain ⟨y6, h_y6, h⟩ := bnd h
                  refine D_read 5 _ rfl (by kernel_rfl) rfl rfl rfl (EL.ext (.keep <| .keep <| .keep <| .keep <| .keep <| .wr rfl rfl rfl <| .nil)) (fun hp' hx => v_call (ok_series_combined h_y6) (.cons (ov rfl) (.b rfl) <| .cons (ov rfl) (.b rfl) <| .cons (ov rfl) (.b rfl) <| .nil)) ?_
                  refine D_read 6 _ rfl (by kernel_rfl) rfl rfl rfl (EL.ext (.keep <| .keep <| .keep <| .keep <| .keep <| .wr rfl rfl rfl <| .nil)) (fun hp' hx => v_fieldP (ov rfl) (hx.get rfl rfl) rfl tF69_2) ?_
                  refine D_read 7 _ rfl (by kernel_rfl) rfl rfl rfl (EL.ext (.keep <| .keep <| .keep <| .keep <| .keep <| .wr rfl rfl rfl <| .nil)) (fun hp' hx => v_loadS (ov rfl) (hx.get rfl rfl) rfl rfl tS3 rfl) ?_
                  refine D_read 8 _ rfl (by kernel_rfl) rfl rfl rfl (EL.ext (.keep <| .keep <| .keep <| .keep <| .keep <| .wr rfl rfl rfl <| .nil)) (fun hp' hx => v_fieldP (ov rfl) (hx.get rfl rfl) rfl tF69_2) ?_
                  refine D_read 9 _ rfl (by kernel_rfl) rfl rfl rfl (EL.ext (.keep <| .keep <| .keep <| .keep <| .keep <| .wr rfl rfl rfl <| .nil)) (fun hp' hx => v_loadS (ov rfl) (hx.get rfl rfl) rfl rfl tS3 rfl) ?_
                  refine D_free 10 _ rfl (by kernel_rfl) rfl rfl (fun hp' => v_min (ov rfl) (ov rfl) rfl) ?_
                  refine D_read 11 _ rfl (by kernel_rfl) rfl rfl rfl (EL.ext (.keep <| .keep <| .keep <| .keep <| .keep <| .wr rfl rfl rfl <| .nil)) (fun hp' hx => exW (r := 5) hx rfl fun _ ho hn => v_fieldP (ov rfl) ho hn tF69_1) ?_
                  refine D_one 12 _ _ rfl (by kernel_rfl) rfl rfl (fun h => by cases h) (fun _ => by exact EL.ext (.keep <| .keep <| .keep <| .keep <| .keep <| .wr rfl rfl rfl <| .nil)) (w_store (ov rfl) (ov rfl) (cells_scal tS3) rfl rfl rfl (Nat.le_of_ble_eq_true rfl) (cell1_all rfl) rfl) ?_
                  refine D_read 13 _ rfl (by kernel_rfl) rfl rfl rfl (EL.ext (.keep <| .keep <| .keep <| .keep <| .keep <| .wr rfl rfl rfl <| .nil)) (fun hp' hx => exW (r := 5) hx rfl fun _ ho hn => v_fieldP (ov rfl) ho hn tF69_2) ?_
                  refine D_one 14 _ _ rfl (by kernel_rfl) rfl rfl (fun h => by cases h) (fun _ => by exact EL.ext (.keep <| .keep <| .keep <| .keep <| .keep <| .wr rfl rfl rfl <| .nil)) (w_store (ov rfl) (ov rfl) (cells_scal tS3) rfl rfl rfl (Nat.le_of_ble_eq_true rfl) (cell1_all rfl) rfl) ?_
                  refine D_done (by kernel_rfl) ?_
                  exact ⟨(api_Sample.mk x2.At y6 (min x2.Mark y4.1.Mark)), h, Ent.sel [some 0, some 1, some 2, some 5] (sd 2 rfl rfl <| sd 3 rfl rfl <| sd 5 rfl rfl <| sr 8 rfl (.ptr _ _ _ rfl) <| sr 13 rfl (.ptr _ _ _ rfl) <| sr 18 rfl (.ptr _ _ _ rfl) <| sd 55 rfl rfl <| sd 56 rfl rfl <| sd 57 rfl rfl <| sn) (.cons rfl (ro1 (by exact tZ_24.symm) (rld rfl)) <| .cons rfl (ro1 (by exact tZ_24.symm) (rlc (.dat rfl) <| rlc (.own _ rfl) <| rln)) <| .cons rfl (roM D69) <| .cons rfl (ro1 (by exact tZ_69.symm) (rld rfl)) <| .nil) rfl rfl⟩
                · skip
                  refine T_skip ?_
                  exact ⟨(api_Sample.mk x2.At 0 0), h, Ent.sel [some 0, some 1, some 2, some 5] (sd 2 rfl rfl <| sd 3 rfl rfl <| sd 5 rfl rfl <| sr 8 rfl (.ptr _ _ _ rfl) <| sr 13 rfl (.ptr _ _ _ rfl) <| sr 18 rfl (.ptr _ _ _ rfl) <| sd 55 rfl rfl <| sd 56 rfl rfl <| sd 57 rfl rfl <| sn) (.cons rfl (ro1 (by exact tZ_24.symm) (rld rfl)) <| .cons rfl (ro1 (by exact tZ_24.symm) (rlc (.dat rfl) <| rlc (.own _ rfl) <| rln)) <| .cons rfl (roM D69) <| .cons rfl (ro1 (by exact tZ_69.symm) (rld rfl)) <| .nil) rfl rfl⟩
              · skip
                obtain ⟨z, rfl⟩ : ∃ x, x = j := ⟨_, rfl⟩
                replace h := t1i h
                refine t1T ?_
                refine T_seq ?_
                refine T_seq (T_reg ?_)
                refine R_q _ rfl (v_fieldP (ov rfl) rfl rfl tF69_1) ?_
                refine R_q _ rfl (v_loadS (ov rfl) rfl rfl rfl tS3 rfl) ?_
                obtain ⟨y7, h_y7, h⟩ := bnd h
                refine R_q _ rfl (v_call (ok_series_within h_y7) (.cons (ov rfl) (.b rfl) <| .cons (ov rfl) (.b rfl) <| .cons (ov rfl) (.b rfl) <| .nil)) ?_
                refine R_q _ rfl (v_not (ov rfl)) ?_
                refine R_nil ?_
                refine T_keep (kc 2 rfl <| kc 3 rfl <| kc 5 rfl <| kc 8 rfl <| kc 13 rfl <| kc 18 rfl <| kc 55 rfl <| kc 56 rfl <| kc 57 rfl <| kc 93 rfl <| kn) rfl ?_
                refine T_if h rfl (fun b93 h => ?_) (fun b93 h => ?_)
                · skip
                  refine T_keep (kc 8 rfl <| kn) rfl ?_
                  refine T_seq (T_reg ?_)
                  refine R_q _ rfl (v_build (ys := [_, _]) tPL24 tHA24 tZ24 (.nil) rfl) ?_
                  refine R_w _ _ rfl (w_store (ov rfl) (ov rfl) (cells_agg tA24 rfl) rfl rfl rfl (Nat.le_of_ble_eq_true rfl) (cell1_all rfl) rfl) ?_
                  refine R_q _ rfl (v_assign (ov rfl)) ?_
                  refine R_nil ?_
                  rw [lx h] at ho2
                  replace h := ho2
                  obtain rfl := rt (v := ((api_Series.mk 0 []), 9)) h
                  refine T_ret (retq ?_ (.two (.agg rfl rfl rfl rfl tA24 rfl rfl (.cons (Dat.view (.b rfl)) <| .cons (View.nils 69) <| .nil)) (.tmp rfl (Dat.view (.b rfl)))))
                  rfl
                · skip
                  refine T_skip ?_
                  refine T_keep (kc 2 rfl <| kc 3 rfl <| kc 5 rfl <| kc 8 rfl <| kc 13 rfl <| kc 18 rfl <| kc 55 rfl <| kc 56 rfl <| kc 57 rfl <| kn) rfl ?_
                  refine T_reg ?_
                  refine R_q _ rfl (v_fieldP (ov rfl) rfl rfl tF24_1) ?_
                  refine R_q _ rfl (v_loadS (ov rfl) rfl rfl rfl tS22 rfl) ?_
                  refine R_q _ rfl (v_loadA (ov rfl) rfl rfl rfl tA69 rfl rfl) ?_
                  refine R_q (.sl 69 (List.map R69 ([z] : List api_Sample))) rfl (v_lit tL22 (.cons (cva (ov rfl)) rfl (pwD rfl) <| .nil) rfl rfl) ?_
                  obtain ⟨l, h_l, h⟩ := bnd h
                  refine R_w _ _ rfl (w_appendG (ov rfl) (slv_sl (ov rfl) tZ_69) tL22 rfl rfl rfl (fun _ => cell1_all rfl) rfl h_l) ?_
                  refine R_q _ rfl (v_fieldP (ov rfl) rfl rfl tF24_1) ?_
                  refine R_w _ _ rfl (w_store (ov rfl) (ov rfl) (cells_scal tS22) rfl rfl rfl (Nat.le_of_ble_eq_true rfl) (cell1_all rfl) rfl) ?_
                  refine R_nil ?_
                  refine T_keep (kc 2 rfl <| kc 3 rfl <| kc 5 rfl <| kc 8 rfl <| kc 13 rfl <| kc 55 rfl <| kc 56 rfl <| kc 57 rfl <| kn) rfl ?_
                  refine T_reg ?_
                  refine R_q _ rfl (v_add (ov rfl) (ov rfl) rfl) ?_
                  refine R_q _ rfl (v_move (ov rfl)) ?_
                  refine R_nil ?_
                  exact ⟨(l, (i64 (i2 + 1))), h, Ent.sel [some 0, some 1, some 2] (sd 2 rfl rfl <| sd 3 rfl rfl <| sd 5 rfl rfl <| sr 8 rfl (.ptr _ _ _ rfl) <| sr 13 rfl (.ptr _ _ _ rfl) <| sd 55 rfl rfl <| sd 56 rfl rfl <| sd 57 rfl rfl <| sn) (.cons rfl (ro1 (by exact tZ_24.symm) (rld rfl)) <| .cons rfl (ro1 (by exact tZ_24.symm) (rlc (.dat rfl) <| rlc (.own _ rfl) <| rln)) <| .cons rfl (roM D69) <| .nil) rfl rfl⟩
            · skip
              refine T_exit ?_
              rw [lx h] at ho2
              replace h := ho2
              exact ⟨Samples2, h, Ent.sel [some 0, some 1, some 2] (sr 8 rfl (.ptr _ _ _ rfl) <| sr 13 rfl (.ptr _ _ _ rfl) <| sn) (.cons rfl (ro1 (by exact tZ_24.symm) (rld rfl)) <| .cons rfl (ro1 (by exact tZ_24.symm) (rlc (.dat rfl) <| rlc (.own _ rfl) <| rln)) <| .cons rfl (roM D69) <| .nil) rfl rfl⟩
          · skip
            replace h := elr h
            obtain ⟨Samples, rfl⟩ : ∃ x, x = j := ⟨_, rfl⟩
            replace h := t1i h
            refine t1T ?_
            refine T_seq (T_reg ?_)
            refine R_q _ rfl (v_loadA (ov rfl) rfl rfl rfl tA24 rfl rfl) ?_
            refine R_w _ _ rfl (w_store (ov rfl) (ov rfl) (cells_agg tA24 rfl) rfl rfl rfl (Nat.le_of_ble_eq_true rfl) (cell1_all rfl) rfl) ?_
            refine R_q _ rfl (v_assign (ov rfl)) ?_
            refine R_nil ?_
            obtain rfl := rt (v := ((api_Series.mk a.Den Samples), 0)) h
            refine T_ret (retq ?_ (.two (.agg rfl rfl rfl rfl tA24 rfl rfl (.cons (Dat.view (.b rfl)) <| .cons (View.ownM rfl rfl D69) <| .nil)) (.tmp rfl (Dat.view (.b rfl)))))
            rfl

theorem ok_istrconv_small {i : Int} {r : Str} (h : istrconv_small i = some r) :
    CSpec Tryd.prog gl0 109 [.int .i64 i] (.str r) := by
  unfold istrconv_small at h
  replace h := bnd0 h
  refine spec_of (by kernel_rfl) Tryd.func109 rfl rfl ?_
  intro w0 A
  refine T_seq (T_reg ?_)
  refine R_q _ rfl (v_assign (ov rfl)) ?_
  refine R_nil ?_
  refine T_seq ?_
  refine T_keep (kc 0 rfl <| kn) rfl ?_
  refine T_seq (T_reg ?_)
  refine R_q _ rfl (v_move (ov rfl)) ?_
  refine R_q _ rfl (v_lss (ov rfl) (ov rfl)) ?_
  refine R_nil ?_
  refine T_keep (kc 0 rfl <| kc 4 rfl <| kn) rfl ?_
  refine T_if h rfl (fun b4 h => ?_) (fun b4 h => ?_)
  · skip
    refine T_keep (kc 0 rfl <| kn) rfl ?_
    refine T_seq (T_reg ?_)
    refine R_q _ rfl (v_move (ov rfl)) ?_
    refine R_q _ rfl (v_move (ov rfl)) ?_
    refine R_q _ rfl (v_add (ov rfl) (ov rfl) rfl) ?_
    obtain ⟨s, h_s, h⟩ := bnd h
    refine R_q _ rfl (v_sliceStrG (ov rfl) tStr9 (oi (ov rfl)) (oi (ov rfl)) h_s) ?_
    refine R_q _ rfl (v_assign (ov rfl)) ?_
    refine R_nil ?_
    obtain rfl := rt (v := s) h
    refine T_ret (retq ?_ (.one (.tmp rfl (Dat.view (.b rfl)))))
    rfl
  · skip
    refine T_skip ?_
    refine T_keep (kc 0 rfl <| kn) rfl ?_
    refine T_seq (T_reg ?_)
    refine R_q _ rfl (v_move (ov rfl)) ?_
    refine R_q _ rfl (v_mul (ov rfl) (ov rfl) rfl) ?_
    refine R_q _ rfl (v_move (ov rfl)) ?_
    refine R_q _ rfl (v_mul (ov rfl) (ov rfl) rfl) ?_
    refine R_q _ rfl (v_add (ov rfl) (ov rfl) rfl) ?_
    obtain ⟨s2, h_s2, h⟩ := bnd h
    refine R_q _ rfl (v_sliceStrG (ov rfl) tStr9 (oi (ov rfl)) (oi (ov rfl)) h_s2) ?_
    refine R_q _ rfl (v_assign (ov rfl)) ?_
    refine R_nil ?_
    obtain rfl := rt (v := s2) h
    refine T_ret (retq ?_ (.one (.tmp rfl (Dat.view (.b rfl)))))
    rfl

theorem ok_numDigits {u r : Int} (h : numDigits u = some r) : CSpec Tryd.prog gl0 110 [.int .u64 u] (.int .i64 r) :=
  ok_numDigitsC (g := 0) (by kernel_rfl) (by kernel_rfl) (by simp [gl0]) (fun _ h1 h2 _ ht => Any.internal_strconv_numDigits Tryd.laysM284 _ h1 h2 _ ht) h

theorem ok_fmt10L {v r : Vector Int 24} {n : Nat} {u : Int} (h : fmt10 v n u = some r) :
    GSpec Tryd.prog gl0 111 [.osl 0 1 (0 + Int.toNat 0) n, .int .u64 u] [some ⟨139, [(List.map C5 v.toList)]⟩] (.tuple []) [some ⟨139, [(List.map C5 r.toList)]⟩] :=
  ok_fmt10 (by kernel_rfl) rfl tZ_139 (fun _ _ _ _ _ _ h1 h2 h3 h4 => Any.internal_strconv_formatBase10 Tryd.lays285 _ _ _ _ _ _ h1 h2 h3 h4) h

theorem ok_istrconv_AppendUint {dst_ : List Int} {i : Int} {base : Int} {r : (List Int)} (h : istrconv_AppendUint dst_ i base = some r) :
    GSpec Tryd.prog gl0 102 [.own 0 dst_.length, .int .u64 i, .int .i64 base] [some ⟨5, List.map R5 dst_⟩] (.own 0 r.length) [some ⟨5, List.map R5 r⟩] := by
  unfold istrconv_AppendUint at h
  replace h := bnd0 h
  refine gspec_of (by kernel_rfl) Tryd.func102 rfl rfl ?_
  intro w0 A W φ0
  refine T_seq (T_reg ?_)
  refine R_q _ rfl (v_assign (ov rfl)) ?_
  refine R_nil ?_
  refine T_seq ?_
  refine T_keep (kc 0 rfl <| kc 1 rfl <| kc 2 rfl <| kn) rfl ?_
  refine T_seq (T_reg ?_)
  refine R_q _ rfl (v_move (ov rfl)) ?_
  refine R_q _ rfl (v_eql (ov rfl) (ov rfl)) ?_
  refine R_nil ?_
  refine T_keep (kc 0 rfl <| kc 1 rfl <| kc 2 rfl <| kc 10 rfl <| kn) rfl ?_
  refine T_if h rfl (fun b10 h => ?_) (fun b10 h => ?_)
  · skip
    refine T_seq ?_
    refine T_keep (kc 0 rfl <| kc 1 rfl <| kn) rfl ?_
    refine T_seq (T_reg ?_)
    refine R_q _ rfl (v_move (ov rfl)) ?_
    refine R_q _ rfl (v_lss (ov rfl) (ov rfl)) ?_
    refine R_nil ?_
    refine T_keep (kc 0 rfl <| kc 1 rfl <| kc 12 rfl <| kn) rfl ?_
    refine T_if h rfl (fun b12 h => ?_) (fun b12 h => ?_)
    · skip
      refine T_keep (kc 0 rfl <| kc 1 rfl <| kn) rfl ?_
      refine T_seq (T_reg ?_)
      refine R_q _ rfl (v_move (ov rfl)) ?_
      refine R_q _ rfl (v_move (ov rfl)) ?_
      refine R_q _ rfl (v_conv (ov rfl) tI101 tI3 rfl) ?_
      obtain ⟨y, h_y, h⟩ := bnd h
      refine R_q _ rfl (v_call (ok_istrconv_small h_y) (.cons (ov rfl) (.b rfl) <| .nil)) ?_
      obtain ⟨l, h_l, h⟩ := bnd h
      refine R_w _ _ rfl (w_appendStrG (f := R5) (ov rfl) (ov rfl) tStr9 tL61 rfl rfl (fun _ => rfl) rfl h_l) ?_
      refine R_q _ rfl (v_assign (ov rfl)) ?_
      refine R_nil ?_
      obtain rfl := rt (v := l) h
      refine T_ret ?_
      exact retg [some 0] rfl (.cons (.tmp rfl) <| .nil) (.cons rfl (roM D5) <| .nil) rfl rfl (.own _ rfl)
    · skip
      refine T_skip ?_
      refine T_keep (kc 0 rfl <| kc 1 rfl <| kn) rfl ?_
      refine T_seq (T_reg ?_)
      refine R_w _ _ rfl (w_alloc (row := (List.map C5 (Vector.replicate 24 0).toList)) 1 rfl tZ139 rfl tZ_139) ?_
      refine R_nil ?_
      refine T_seq (T_reg ?_)
      refine R_q _ rfl (v_move (ov rfl)) ?_
      obtain ⟨y2, h_y2, h⟩ := bnd h
      refine R_q _ rfl (v_call (ok_numDigits h_y2) (.cons (ov rfl) (.b rfl) <| .nil)) ?_
      refine R_q _ rfl (v_assign (ov rfl)) ?_
      refine R_nil ?_
      refine T_keep (kc 0 rfl <| kc 1 rfl <| kc 7 rfl <| kc 8 rfl <| kn) rfl ?_
      refine T_seq (T_reg ?_)
      refine R_q _ rfl (v_move (ov rfl)) ?_
      obtain ⟨l2, h_l2, h⟩ := bnd h
      refine R_q _ rfl (v_slArr (ov rfl) tR139 rfl rfl on (oi (ov rfl)) h_l2) ?_
      refine R_q _ rfl (v_move (ov rfl)) ?_
      obtain ⟨y3, h_y3, h⟩ := bnd h
      refine R_w _ _ rfl (w_callG [1] (ok_fmt10L h_y3) (.cons (ov rfl) (.osl _ _ _ rfl) <| .cons (ov rfl) (.dat rfl) <| .nil) (.cons rfl (ro1 (arL.trans tZ_139.symm) (rld (arD fun _ => rfl))) <| .nil) rfl (.keep rfl rfl <| .lent 0 (.inl rfl) rfl (ro1 (arL.trans tZ_139.symm) (rld (arD fun _ => rfl))) <| .nil) rfl rfl (rTup (rld rfl))) ?_
      refine R_nil ?_
      refine T_keep (kc 0 rfl <| kc 7 rfl <| kc 8 rfl <| kn) rfl ?_
      refine T_seq (T_reg ?_)
      refine R_q _ rfl (v_move (ov rfl)) ?_
      refine R_q _ rfl (v_move (ov rfl)) ?_
      obtain ⟨l3, h_l3, h⟩ := bnd h
      refine R_q _ rfl (v_slArr (ov rfl) tR139 rfl rfl on (oi (ov rfl)) h_l3) ?_
      obtain ⟨l4, h_l4, h⟩ := bnd h
      obtain ⟨l5, h_l5, h⟩ := bnd h
      refine R_w _ _ rfl (w_appendZ (f := R5) (ov rfl) (slv_osl (f := C5) (ov rfl) h_l4 rfl rfl) tL61 rfl rfl (fun _ => cell1_all rfl) rfl h_l5) ?_
      refine R_q _ rfl (v_assign (ov rfl)) ?_
      refine R_nil ?_
      obtain rfl := rt (v := l5) h
      refine T_ret ?_
      exact retg [some 0] rfl (.cons (.tmp rfl) <| .nil) (.cons rfl (roM D5) <| .nil) rfl rfl (.own _ rfl)
  · skip
    refine T_skip ?_
    exact (noneB h).elim

theorem ok_istrconv_AppendInt {dst_ : List Int} {i : Int} {base : Int} {r : (List Int)} (h : istrconv_AppendInt dst_ i base = some r) :
    GSpec Tryd.prog gl0 90 [.own 0 dst_.length, .int .i64 i, .int .i64 base] [some ⟨5, List.map R5 dst_⟩] (.own 0 r.length) [some ⟨5, List.map R5 r⟩] := by
  unfold istrconv_AppendInt at h
  replace h := bnd0 h
  refine gspec_of (by kernel_rfl) Tryd.func90 rfl rfl ?_
  intro w0 A W φ0
  refine T_seq (T_reg ?_)
  refine R_q _ rfl (v_assign (ov rfl)) ?_
  refine R_nil ?_
  refine T_keep (kc 0 rfl <| kc 1 rfl <| kc 2 rfl <| kn) rfl ?_
  refine T_seq (T_reg ?_)
  refine R_q _ rfl (v_move (ov rfl)) ?_
  refine R_q _ rfl (v_conv (ov rfl) tI2 tI101 rfl) ?_
  refine R_q _ rfl (v_assign (ov rfl)) ?_
  refine R_nil ?_
  refine T_joinG id (t2 fun o u => ⟨[(0, .own 0 o.length), (2, .int .i64 base), (7, .int .u64 u)], [some ⟨5, List.map R5 o⟩]⟩) h (fun h => ?_) (fun j h => ?_)
  · skip
    refine T_keep (kc 0 rfl <| kc 1 rfl <| kc 2 rfl <| kc 7 rfl <| kn) rfl ?_
    refine T_seq (T_reg ?_)
    refine R_q _ rfl (v_move (ov rfl)) ?_
    refine R_q _ rfl (v_lss (ov rfl) (ov rfl)) ?_
    refine R_nil ?_
    refine T_keep (kc 0 rfl <| kc 2 rfl <| kc 7 rfl <| kc 11 rfl <| kn) rfl ?_
    refine T_if h rfl (fun b11 h => ?_) (fun b11 h => ?_)
    · skip
      refine T_keep (kc 0 rfl <| kc 2 rfl <| kc 7 rfl <| kn) rfl ?_
      refine T_seq (T_reg ?_)
      refine R_q _ rfl (v_move (ov rfl)) ?_
      refine R_q (.sl 5 (List.map R5 ([45] : List Int))) rfl (v_lit tL61 (.cons (cvs (ov rfl) (cell1_b rfl)) rfl (.cons (.b rfl) .nil) <| .nil) rfl rfl) ?_
      obtain ⟨l, h_l, h⟩ := bnd h
      refine R_w _ _ rfl (w_appendG (ov rfl) (slv_sl (ov rfl) tZ_5) tL61 rfl rfl rfl (fun _ => cell1_all rfl) rfl h_l) ?_
      refine R_q _ rfl (v_assign (ov rfl)) ?_
      refine R_nil ?_
      refine T_keep (kc 0 rfl <| kc 2 rfl <| kc 7 rfl <| kn) rfl ?_
      refine T_reg ?_
      refine R_q _ rfl (v_move (ov rfl)) ?_
      refine R_q _ rfl (v_neg (ov rfl) rfl) ?_
      refine R_q _ rfl (v_assign (ov rfl)) ?_
      refine R_nil ?_
      exact ⟨(l, (u64 (-(u64 i)))), h, Ent.sel [some 0] (sr 0 rfl (.own _ rfl) <| sd 2 rfl rfl <| sd 7 rfl rfl <| sn) (.cons rfl (roM D5) <| .nil) rfl rfl⟩
    · skip
      refine T_skip ?_
      exact ⟨(dst_, (u64 i)), h, Ent.sel [some 0] (sr 0 rfl (.own _ rfl) <| sd 2 rfl rfl <| sd 7 rfl rfl <| sn) (.cons rfl (roM D5) <| .nil) rfl rfl⟩
  · skip
    obtain ⟨o, u⟩ := j
    replace h := t2i h
    refine t2T ?_
    refine T_seq (T_reg ?_)
    refine R_q _ rfl (v_move (ov rfl)) ?_
    refine R_q _ rfl (v_move (ov rfl)) ?_
    refine R_q _ rfl (v_move (ov rfl)) ?_
    obtain ⟨y, h_y, h⟩ := bnd h
    refine R_w _ _ rfl (w_callG [0] (ok_istrconv_AppendUint h_y) (.cons (ov rfl) (.own _ rfl) <| .cons (ov rfl) (.dat rfl) <| .cons (ov rfl) (.dat rfl) <| .nil) (.cons rfl (roM D5) <| .nil) rfl (.lent 0 (.inl rfl) rfl (roM D5) <| .nil) rfl rfl (.own _ (.inl rfl))) ?_
    refine R_q _ rfl (v_assign (ov rfl)) ?_
    refine R_nil ?_
    obtain rfl := rt (v := y) h
    refine T_ret ?_
    exact retg [some 0] rfl (.cons (.tmp rfl) <| .nil) (.cons rfl (roM D5) <| .nil) rfl rfl (.own _ rfl)

theorem ok_strconv_AppendInt {dst_ : List Int} {i : Int} {base : Int} {r : (List Int)} (h : strconv_AppendInt dst_ i base = some r) :
    GSpec Tryd.prog gl0 83 [.own 0 dst_.length, .int .i64 i, .int .i64 base] [some ⟨5, List.map R5 dst_⟩] (.own 0 r.length) [some ⟨5, List.map R5 r⟩] := by
  unfold strconv_AppendInt at h
  replace h := bnd0 h
  refine gspec_of (by kernel_rfl) Tryd.func83 rfl rfl ?_
  intro w0 A W φ0
  refine T_seq (T_reg ?_)
  refine R_q _ rfl (v_assign (ov rfl)) ?_
  refine R_nil ?_
  refine T_seq (T_reg ?_)
  refine R_q _ rfl (v_move (ov rfl)) ?_
  refine R_q _ rfl (v_move (ov rfl)) ?_
  refine R_q _ rfl (v_move (ov rfl)) ?_
  obtain ⟨y, h_y, h⟩ := bnd h
  refine R_w _ _ rfl (w_callG [0] (ok_istrconv_AppendInt h_y) (.cons (ov rfl) (.own _ rfl) <| .cons (ov rfl) (.dat rfl) <| .cons (ov rfl) (.dat rfl) <| .nil) (.cons rfl (roM D5) <| .nil) rfl (.lent 0 (.inl rfl) rfl (roM D5) <| .nil) rfl rfl (.own _ (.inl rfl))) ?_
  refine R_q _ rfl (v_assign (ov rfl)) ?_
  refine R_nil ?_
  obtain rfl := rt (v := y) h
  refine T_ret ?_
  exact retg [some 0] rfl (.cons (.tmp rfl) <| .nil) (.cons rfl (roM D5) <| .nil) rfl rfl (.own _ rfl)

theorem ok_ref0_Ink_Int_w {k : ref0_Ink} {n : Int} {r : ref0_Ink} (h : ref0_Ink_Int k n = some r) :
    GSpec Tryd.prog gl0 70 [.ptr 0 1 0 0, .int .i64 n] [some ⟨63, [[.own 1 k.out.length]]⟩, some ⟨5, List.map R5 k.out⟩] (.tuple []) [some ⟨63, [[.own 1 r.out.length]]⟩, some ⟨5, List.map R5 r.out⟩] := by
  unfold ref0_Ink_Int at h
  replace h := bnd0 h
  refine gspec_of (by kernel_rfl) Tryd.func70 rfl rfl ?_
  intro w0 A W φ0
  refine T_seq (T_reg ?_)
  refine R_q _ rfl (v_move (ov rfl)) ?_
  refine R_q _ rfl (v_move (ov rfl)) ?_
  refine R_q _ rfl (v_nilCheckP (ov rfl) rfl rfl) ?_
  refine R_q _ rfl (v_fieldP (ov rfl) rfl rfl tF63_0) ?_
  refine R_q _ rfl (v_loadS (ov rfl) rfl rfl rfl tS61 rfl) ?_
  refine R_q _ rfl (v_move (ov rfl)) ?_
  obtain ⟨y, h_y, h⟩ := bnd h
  refine R_w _ _ rfl (w_callG [1] (ok_strconv_AppendInt h_y) (.cons (ov rfl) (.own _ rfl) <| .cons (ov rfl) (.dat rfl) <| .cons (ov rfl) (.dat rfl) <| .nil) (.cons rfl (roM D5) <| .nil) rfl (.keep rfl rfl <| .lent 0 (.inl rfl) rfl (roM D5) <| .nil) rfl rfl (.own _ (.inl rfl))) ?_
  refine R_q _ rfl (v_nilCheckP (ov rfl) rfl rfl) ?_
  refine R_q _ rfl (v_fieldP (ov rfl) rfl rfl tF63_0) ?_
  refine R_w _ _ rfl (w_store (ov rfl) (ov rfl) (cells_scal tS61) rfl rfl rfl (Nat.le_of_ble_eq_true rfl) (cell1_all rfl) rfl) ?_
  refine R_nil ?_
  refine T_keep (kc 0 rfl <| kn) rfl ?_
  refine T_reg ?_
  refine R_q _ rfl (v_move (ov rfl)) ?_
  refine R_q _ rfl (v_move (ov rfl)) ?_
  refine R_q _ rfl (v_nilCheckP (ov rfl) rfl rfl) ?_
  refine R_q _ rfl (v_fieldP (ov rfl) rfl rfl tF63_0) ?_
  refine R_q _ rfl (v_loadS (ov rfl) rfl rfl rfl tS61 rfl) ?_
  refine R_q (.sl 5 (List.map R5 ([32] : List Int))) rfl (v_lit tL61 (.cons (cvs (ov rfl) (cell1_b rfl)) rfl (.cons (.b rfl) .nil) <| .nil) rfl rfl) ?_
  obtain ⟨l, h_l, h⟩ := bnd h
  refine R_w _ _ rfl (w_appendG (ov rfl) (slv_sl (ov rfl) tZ_5) tL61 rfl rfl rfl (fun _ => cell1_all rfl) rfl h_l) ?_
  refine R_q _ rfl (v_nilCheckP (ov rfl) rfl rfl) ?_
  refine R_q _ rfl (v_fieldP (ov rfl) rfl rfl tF63_0) ?_
  refine R_w _ _ rfl (w_store (ov rfl) (ov rfl) (cells_scal tS61) rfl rfl rfl (Nat.le_of_ble_eq_true rfl) (cell1_all rfl) rfl) ?_
  refine R_nil ?_
  obtain rfl := rt (v := (ref0_Ink.mk l)) h
  exact retgn [some 0, some 1] rfl (.nil) (.cons rfl (ro1 (by exact tZ_63.symm) (rlc (.own _ rfl) <| rln)) <| .cons rfl (roM D5) <| .nil) rfl rfl (rTup (rln))

theorem ok_ref0_Ink_Ints_w {k : ref0_Ink} {l : List Int} {r : ref0_Ink} (h : ref0_Ink_Ints k l = some r) :
    GSpec Tryd.prog gl0 50 [.ptr 0 1 0 0, .sl 3 (List.map R3 l)] [some ⟨63, [[.own 1 k.out.length]]⟩, some ⟨5, List.map R5 k.out⟩] (.tuple []) [some ⟨63, [[.own 1 r.out.length]]⟩, some ⟨5, List.map R5 r.out⟩] := by
  unfold ref0_Ink_Ints at h
  replace h := bnd0 h
  refine gspec_of (by kernel_rfl) Tryd.func50 rfl rfl ?_
  intro w0 A W φ0
  refine T_seq (T_reg ?_)
  refine R_q _ rfl (v_move (ov rfl)) ?_
  refine R_q _ rfl (v_move (ov rfl)) ?_
  refine R_q _ rfl (v_len (slv_sl (ov rfl) tZ_3) tL33 (len_map _ _)) ?_
  obtain ⟨y, h_y, h⟩ := bnd h
  refine R_w _ _ rfl (w_callG [0, 1] (ok_ref0_Ink_Int_w h_y) (.cons (ov rfl) (.ptr _ _ _ rfl) <| .cons (ov rfl) (.dat rfl) <| .nil) (.cons rfl (ro1 (by exact tZ_63.symm) (rlc (.own _ rfl) <| rln)) <| .cons rfl (roM D5) <| .nil) rfl (.lent 0 (.inl rfl) rfl (ro1 (by exact tZ_63.symm) (rlc (.own _ (.inl rfl)) <| rln)) <| .lent 1 (.inl rfl) rfl (roM D5) <| .nil) rfl rfl (rTup (rld rfl))) ?_
  refine R_nil ?_
  refine T_keep (kc 0 rfl <| kc 1 rfl <| kn) rfl ?_
  refine T_seq (T_reg ?_)
  refine R_q _ rfl (v_assign (ov rfl)) ?_
  refine R_nil ?_
  refine T_block ?_
  obtain ⟨r1, hl1, ho1⟩ := bndL h
  refine T_loopG _ (t2 fun out i => ⟨[(0, .ptr 0 1 0 0), (1, .sl 3 (List.map R3 l)), (4, .int .i64 i)], [some ⟨63, [[.own 1 out.length]]⟩, some ⟨5, List.map R5 out⟩]⟩) _ hl1 (Ent.sel [some 0, some 1] (sr 0 rfl (.ptr _ _ _ rfl) <| sd 1 rfl rfl <| sd 4 rfl rfl <| sn) (.cons rfl (ro1 (by exact tZ_63.symm) (rlc (.own _ rfl) <| rln)) <| .cons rfl (roM D5) <| .nil) rfl rfl) (fun n1 s1 h => ?_)
  obtain ⟨out, i⟩ := s1
  replace h := t2i h
  refine t2T ?_
  unfold ref0_Ink_Ints_L1 at h
  refine T_seq ?_
  refine T_seq (T_reg ?_)
  refine R_q _ rfl (v_move (ov rfl)) ?_
  refine R_q _ rfl (v_move (ov rfl)) ?_
  refine R_q _ rfl (v_len (slv_sl (ov rfl) tZ_3) tL33 (len_map _ _)) ?_
  refine R_q _ rfl (v_lss (ov rfl) (ov rfl)) ?_
  refine R_nil ?_
  refine T_keep (kc 0 rfl <| kc 1 rfl <| kc 4 rfl <| kc 12 rfl <| kn) rfl ?_
  refine T_if h rfl (fun b12 h => ?_) (fun b12 h => ?_)
  · skip
    refine T_skip ?_
    refine T_seq ?_
    refine T_block ?_
    refine T_keep (kc 0 rfl <| kc 1 rfl <| kc 4 rfl <| kn) rfl ?_
    refine T_reg ?_
    refine R_q _ rfl (v_move (ov rfl)) ?_
    refine R_q _ rfl (v_move (ov rfl)) ?_
    refine R_q _ rfl (v_move (ov rfl)) ?_
    obtain ⟨x, h_x, h⟩ := bnd h
    refine R_q _ rfl (v_ixSG (ov rfl) (ov rfl) tL33 h_x) ?_
    refine R_q _ rfl (v_loadS_r (ov rfl) tS3 rfl) ?_
    obtain ⟨y2, h_y2, h⟩ := bnd h
    refine R_w _ _ rfl (w_callG [0, 1] (ok_ref0_Ink_Int_w h_y2) (.cons (ov rfl) (.ptr _ _ _ rfl) <| .cons (ov rfl) (.dat rfl) <| .nil) (.cons rfl (ro1 (by exact tZ_63.symm) (rlc (.own _ rfl) <| rln)) <| .cons rfl (roM D5) <| .nil) rfl (.lent 0 (.inl rfl) rfl (ro1 (by exact tZ_63.symm) (rlc (.own _ (.inl rfl)) <| rln)) <| .lent 1 (.inl rfl) rfl (roM D5) <| .nil) rfl rfl (rTup (rld rfl))) ?_
    refine R_nil ?_
    refine T_keep (kc 0 rfl <| kc 1 rfl <| kc 4 rfl <| kn) rfl ?_
    refine T_reg ?_
    refine R_q _ rfl (v_move (ov rfl)) ?_
    refine R_q _ rfl (v_add (ov rfl) (ov rfl) rfl) ?_
    refine R_q _ rfl (v_assign (ov rfl)) ?_
    refine R_nil ?_
    exact ⟨(y2.out, (i64 (i + 1))), h, Ent.sel [some 0, some 1] (sr 0 rfl (.ptr _ _ _ rfl) <| sd 1 rfl rfl <| sd 4 rfl rfl <| sn) (.cons rfl (ro1 (by exact tZ_63.symm) (rlc (.own _ rfl) <| rln)) <| .cons rfl (roM D5) <| .nil) rfl rfl⟩
  · skip
    refine T_exit ?_
    rw [lx h] at ho1
    replace h := ho1
    obtain rfl := rt (v := (ref0_Ink.mk out)) h
    exact retgn [some 0, some 1] rfl (.nil) (.cons rfl (ro1 (by exact tZ_63.symm) (rlc (.own _ rfl) <| rln)) <| .cons rfl (roM D5) <| .nil) rfl rfl (rTup (rln))

theorem ok_ref0_Ink_Sample_w {k : ref0_Ink} {x : api_Sample} {r : ref0_Ink} (h : ref0_Ink_Sample k x = some r) :
    GSpec Tryd.prog gl0 71 [.ptr 0 1 0 0, .agg [.int .i64 x.At, .int .i64 x.N, .int .i64 x.Mark]] [some ⟨63, [[.own 1 k.out.length]]⟩, some ⟨5, List.map R5 k.out⟩] (.tuple []) [some ⟨63, [[.own 1 r.out.length]]⟩, some ⟨5, List.map R5 r.out⟩] := by
  unfold ref0_Ink_Sample at h
  replace h := bnd0 h
  refine gspec_of (by kernel_rfl) Tryd.func71 rfl rfl ?_
  intro w0 A W φ0
  refine T_seq (T_reg ?_)
  refine R_q _ rfl (v_boxD (cva (ov rfl)) rfl tZ_69 rfl) ?_
  refine R_nil ?_
  refine T_keep (kc 0 rfl <| kc 3 rfl <| kn) rfl ?_
  refine T_reg ?_
  refine R_q _ rfl (v_move (ov rfl)) ?_
  refine R_q _ rfl (v_fieldR (ov rfl) tF69_0) ?_
  refine R_q _ rfl (v_loadS_r (ov rfl) tS3 rfl) ?_
  refine R_q _ rfl (v_fieldR (ov rfl) tF69_1) ?_
  refine R_q _ rfl (v_loadS_r (ov rfl) tS3 rfl) ?_
  refine R_q _ rfl (v_fieldR (ov rfl) tF69_2) ?_
  refine R_q _ rfl (v_loadS_r (ov rfl) tS3 rfl) ?_
  refine R_q (.sl 3 (List.map R3 ([x.At, x.N, x.Mark] : List Int))) rfl (v_lit tL33 (.cons (cvs (ov rfl) (cell1_b rfl)) rfl (.cons (.b rfl) .nil) <| .cons (cvs (ov rfl) (cell1_b rfl)) rfl (.cons (.b rfl) .nil) <| .cons (cvs (ov rfl) (cell1_b rfl)) rfl (.cons (.b rfl) .nil) <| .nil) rfl rfl) ?_
  obtain ⟨y, h_y, h⟩ := bnd h
  refine R_w _ _ rfl (w_callG [0, 1] (ok_ref0_Ink_Ints_w h_y) (.cons (ov rfl) (.ptr _ _ _ rfl) <| .cons (ov rfl) (.dat rfl) <| .nil) (.cons rfl (ro1 (by exact tZ_63.symm) (rlc (.own _ rfl) <| rln)) <| .cons rfl (roM D5) <| .nil) rfl (.lent 0 (.inl rfl) rfl (ro1 (by exact tZ_63.symm) (rlc (.own _ (.inl rfl)) <| rln)) <| .lent 1 (.inl rfl) rfl (roM D5) <| .nil) rfl rfl (rTup (rld rfl))) ?_
  refine R_nil ?_
  obtain rfl := rt (v := y) h
  exact retgn [some 0, some 1] rfl (.nil) (.cons rfl (ro1 (by exact tZ_63.symm) (rlc (.own _ rfl) <| rln)) <| .cons rfl (roM D5) <| .nil) rfl rfl (rTup (rln))

theorem ok_ref0_Ink_Series_w {k : ref0_Ink} {s : api_Series} {r : ref0_Ink} (h : ref0_Ink_Series k s = some r) :
    GSpec Tryd.prog gl0 37 [.ptr 0 1 0 0, .agg [.int .i64 s.Den, .sl 69 (List.map R69 s.Samples)]] [some ⟨63, [[.own 1 k.out.length]]⟩, some ⟨5, List.map R5 k.out⟩] (.tuple []) [some ⟨63, [[.own 1 r.out.length]]⟩, some ⟨5, List.map R5 r.out⟩] := by
  unfold ref0_Ink_Series at h
  replace h := bnd0 h
  refine gspec_of (by kernel_rfl) Tryd.func37 rfl rfl ?_
  intro w0 A W φ0
  refine T_seq (T_reg ?_)
  refine R_q _ rfl (v_boxD (cva (ov rfl)) rfl tZ_24 rfl) ?_
  refine R_nil ?_
  refine T_keep (kc 0 rfl <| kc 3 rfl <| kn) rfl ?_
  refine T_seq (T_reg ?_)
  refine R_q _ rfl (v_move (ov rfl)) ?_
  refine R_q _ rfl (v_fieldR (ov rfl) tF24_0) ?_
  refine R_q _ rfl (v_loadS_r (ov rfl) tS3 rfl) ?_
  obtain ⟨y, h_y, h⟩ := bnd h
  refine R_w _ _ rfl (w_callG [0, 1] (ok_ref0_Ink_Int_w h_y) (.cons (ov rfl) (.ptr _ _ _ rfl) <| .cons (ov rfl) (.dat rfl) <| .nil) (.cons rfl (ro1 (by exact tZ_63.symm) (rlc (.own _ rfl) <| rln)) <| .cons rfl (roM D5) <| .nil) rfl (.lent 0 (.inl rfl) rfl (ro1 (by exact tZ_63.symm) (rlc (.own _ (.inl rfl)) <| rln)) <| .lent 1 (.inl rfl) rfl (roM D5) <| .nil) rfl rfl (rTup (rld rfl))) ?_
  refine R_nil ?_
  refine T_keep (kc 0 rfl <| kc 3 rfl <| kn) rfl ?_
  refine T_seq (T_reg ?_)
  refine R_q _ rfl (v_move (ov rfl)) ?_
  refine R_q _ rfl (v_fieldR (ov rfl) tF24_1) ?_
  refine R_q _ rfl (v_loadS_r (ov rfl) tS22 rfl) ?_
  refine R_q _ rfl (v_len (slv_sl (ov rfl) tZ_69) tL22 (len_map _ _)) ?_
  obtain ⟨y2, h_y2, h⟩ := bnd h
  refine R_w _ _ rfl (w_callG [0, 1] (ok_ref0_Ink_Int_w h_y2) (.cons (ov rfl) (.ptr _ _ _ rfl) <| .cons (ov rfl) (.dat rfl) <| .nil) (.cons rfl (ro1 (by exact tZ_63.symm) (rlc (.own _ rfl) <| rln)) <| .cons rfl (roM D5) <| .nil) rfl (.lent 0 (.inl rfl) rfl (ro1 (by exact tZ_63.symm) (rlc (.own _ (.inl rfl)) <| rln)) <| .lent 1 (.inl rfl) rfl (roM D5) <| .nil) rfl rfl (rTup (rld rfl))) ?_
  refine R_nil ?_
  refine T_keep (kc 0 rfl <| kc 3 rfl <| kn) rfl ?_
  refine T_seq (T_reg ?_)
  refine R_q _ rfl (v_assign (ov rfl)) ?_
  refine R_nil ?_
  refine T_block ?_
  obtain ⟨r1, hl1, ho1⟩ := bndL h
  refine T_loopG _ (t2 fun out i => ⟨[(0, .ptr 0 1 0 0), (3, .rp [.int .i64 s.Den, .sl 69 (List.map R69 s.Samples)] 0), (4, .int .i64 i)], [some ⟨63, [[.own 1 out.length]]⟩, some ⟨5, List.map R5 out⟩]⟩) _ hl1 (Ent.sel [some 0, some 1] (sr 0 rfl (.ptr _ _ _ rfl) <| sd 3 rfl rfl <| sd 4 rfl rfl <| sn) (.cons rfl (ro1 (by exact tZ_63.symm) (rlc (.own _ rfl) <| rln)) <| .cons rfl (roM D5) <| .nil) rfl rfl) (fun n1 s1 h => ?_)
  obtain ⟨out, i⟩ := s1
  replace h := t2i h
  refine t2T ?_
  unfold ref0_Ink_Series_L1 at h
  refine T_seq ?_
  refine T_seq (T_reg ?_)
  refine R_q _ rfl (v_move (ov rfl)) ?_
  refine R_q _ rfl (v_fieldR (ov rfl) tF24_1) ?_
  refine R_q _ rfl (v_loadS_r (ov rfl) tS22 rfl) ?_
  refine R_q _ rfl (v_len (slv_sl (ov rfl) tZ_69) tL22 (len_map _ _)) ?_
  refine R_q _ rfl (v_lss (ov rfl) (ov rfl)) ?_
  refine R_nil ?_
  refine T_keep (kc 0 rfl <| kc 3 rfl <| kc 4 rfl <| kc 18 rfl <| kn) rfl ?_
  refine T_if h rfl (fun b18 h => ?_) (fun b18 h => ?_)
  · skip
    refine T_skip ?_
    refine T_seq ?_
    refine T_block ?_
    refine T_keep (kc 0 rfl <| kc 3 rfl <| kc 4 rfl <| kn) rfl ?_
    refine T_reg ?_
    refine R_q _ rfl (v_move (ov rfl)) ?_
    refine R_q _ rfl (v_fieldR (ov rfl) tF24_1) ?_
    refine R_q _ rfl (v_loadS_r (ov rfl) tS22 rfl) ?_
    refine R_q _ rfl (v_move (ov rfl)) ?_
    obtain ⟨x, h_x, h⟩ := bnd h
    refine R_q _ rfl (v_ixSG (ov rfl) (ov rfl) tL22 h_x) ?_
    refine R_q _ rfl (v_loadA_r (ov rfl) tA69 rfl rfl) ?_
    obtain ⟨y3, h_y3, h⟩ := bnd h
    refine R_w _ _ rfl (w_callG [0, 1] (ok_ref0_Ink_Sample_w h_y3) (.cons (ov rfl) (.ptr _ _ _ rfl) <| .cons (ov rfl) (rAgg (rld rfl)) <| .nil) (.cons rfl (ro1 (by exact tZ_63.symm) (rlc (.own _ rfl) <| rln)) <| .cons rfl (roM D5) <| .nil) rfl (.lent 0 (.inl rfl) rfl (ro1 (by exact tZ_63.symm) (rlc (.own _ (.inl rfl)) <| rln)) <| .lent 1 (.inl rfl) rfl (roM D5) <| .nil) rfl rfl (rTup (rld rfl))) ?_
    refine R_nil ?_
    refine T_keep (kc 0 rfl <| kc 3 rfl <| kc 4 rfl <| kn) rfl ?_
    refine T_reg ?_
    refine R_q _ rfl (v_move (ov rfl)) ?_
    refine R_q _ rfl (v_add (ov rfl) (ov rfl) rfl) ?_
    refine R_q _ rfl (v_assign (ov rfl)) ?_
    refine R_nil ?_
    exact ⟨(y3.out, (i64 (i + 1))), h, Ent.sel [some 0, some 1] (sr 0 rfl (.ptr _ _ _ rfl) <| sd 3 rfl rfl <| sd 4 rfl rfl <| sn) (.cons rfl (ro1 (by exact tZ_63.symm) (rlc (.own _ rfl) <| rln)) <| .cons rfl (roM D5) <| .nil) rfl rfl⟩
  · skip
    refine T_exit ?_
    rw [lx h] at ho1
    replace h := ho1
    obtain rfl := rt (v := (ref0_Ink.mk out)) h
    exact retgn [some 0, some 1] rfl (.nil) (.cons rfl (ro1 (by exact tZ_63.symm) (rlc (.own _ rfl) <| rln)) <| .cons rfl (roM D5) <| .nil) rfl rfl (rTup (rln))

theorem ok_ref0_Ink_Errno_w {k : ref0_Ink} {e : Int} {r : ref0_Ink} (h : ref0_Ink_Errno k e = some r) :
    GSpec Tryd.prog gl0 38 [.ptr 0 1 0 0, .int .i64 e] [some ⟨63, [[.own 1 k.out.length]]⟩, some ⟨5, List.map R5 k.out⟩] (.tuple []) [some ⟨63, [[.own 1 r.out.length]]⟩, some ⟨5, List.map R5 r.out⟩] := by
  unfold ref0_Ink_Errno at h
  replace h := bnd0 h
  refine gspec_of (by kernel_rfl) Tryd.func38 rfl rfl ?_
  intro w0 A W φ0
  refine T_reg ?_
  refine R_q _ rfl (v_move (ov rfl)) ?_
  refine R_q _ rfl (v_move (ov rfl)) ?_
  obtain ⟨y, h_y, h⟩ := bnd h
  refine R_w _ _ rfl (w_callG [0, 1] (ok_ref0_Ink_Int_w h_y) (.cons (ov rfl) (.ptr _ _ _ rfl) <| .cons (ov rfl) (.dat rfl) <| .nil) (.cons rfl (ro1 (by exact tZ_63.symm) (rlc (.own _ rfl) <| rln)) <| .cons rfl (roM D5) <| .nil) rfl (.lent 0 (.inl rfl) rfl (ro1 (by exact tZ_63.symm) (rlc (.own _ (.inl rfl)) <| rln)) <| .lent 1 (.inl rfl) rfl (roM D5) <| .nil) rfl rfl (rTup (rld rfl))) ?_
  refine R_nil ?_
  obtain rfl := rt (v := y) h
  exact retgn [some 0, some 1] rfl (.nil) (.cons rfl (ro1 (by exact tZ_63.symm) (rlc (.own _ rfl) <| rln)) <| .cons rfl (roM D5) <| .nil) rfl rfl (rTup (rln))

theorem ok_ref0_Ink_Told_w {k : ref0_Ink} {r : Str} (h : ref0_Ink_Told k = some r) :
    GSpec Tryd.prog gl0 39 [.ptr 0 1 0 0] [some ⟨63, [[.own 1 k.out.length]]⟩, some ⟨5, List.map R5 k.out⟩] (.str r) [some ⟨63, [[.own 1 k.out.length]]⟩, some ⟨5, List.map R5 k.out⟩] := by
  unfold ref0_Ink_Told at h
  replace h := bnd0 h
  refine gspec_of (by kernel_rfl) Tryd.func39 rfl rfl ?_
  intro w0 A W φ0
  refine T_seq (T_reg ?_)
  refine R_q _ rfl (v_assign (ov rfl)) ?_
  refine R_nil ?_
  refine T_seq (T_reg ?_)
  refine R_q _ rfl (v_move (ov rfl)) ?_
  refine R_q _ rfl (v_nilCheckP (ov rfl) rfl rfl) ?_
  refine R_q _ rfl (v_fieldP (ov rfl) rfl rfl tF63_0) ?_
  refine R_q _ rfl (v_loadS (ov rfl) rfl rfl rfl tS61 rfl) ?_
  refine R_q _ rfl (v_strOf (f := R5) (slv_own (o := ⟨5, List.map R5 k.out⟩) (ov rfl) rfl (List.length_map ..) tZ_5) (fun _ => rfl) tL61 tStr9 tU85) ?_
  refine R_q _ rfl (v_assign (ov rfl)) ?_
  refine R_nil ?_
  obtain rfl := rt (v := (ofBytes k.out)) h
  refine T_ret ?_
  exact retg [some 0, some 1] rfl (.cons (.tmp rfl) <| .nil) (.cons rfl (ro1 (by exact tZ_63.symm) (rlc (.own _ rfl) <| rln)) <| .cons rfl (roM D5) <| .nil) rfl rfl (.dat rfl)

theorem ok_law5_told {s : api_Series} {e : Int} {r : Str} (h : law5_told s e = some r) :
    CSpec Tryd.prog gl0 10 [.agg [.int .i64 s.Den, .sl 69 (List.map R69 s.Samples)], .int .i64 e] (.str r) := by
  unfold law5_told at h
  replace h := bnd0 h
  refine spec_of (by kernel_rfl) Tryd.func10 rfl rfl ?_
  intro w0 A
  refine T_seq (T_reg ?_)
  refine R_q _ rfl (v_boxD (cva (ov rfl)) rfl tZ_24 rfl) ?_
  refine R_q _ rfl (v_assign (ov rfl)) ?_
  refine R_nil ?_
  refine T_keep (kc 1 rfl <| kc 2 rfl <| kn) rfl ?_
  refine T_seq (T_reg ?_)
  refine R_q _ rfl (v_build (ys := [_]) tPL63 tHA63 tZ63 (.nil) rfl) ?_
  refine R_w _ _ rfl (w_box 0 rfl (ov rfl) tA63 rfl) ?_
  refine R_q _ rfl (v_assign (ov rfl)) ?_
  refine R_nil ?_
  refine T_keep (kc 1 rfl <| kc 2 rfl <| kc 5 rfl <| kn) rfl ?_
  refine T_seq (T_reg ?_)
  refine R_q _ rfl (v_move (ov rfl)) ?_
  refine R_q _ rfl (v_loadA_r (ov rfl) tA24 rfl rfl) ?_
  obtain ⟨y, h_y, h⟩ := bnd h
  refine R_ent (Ent.sel [some 0, none] (sd 1 rfl rfl <| sd 2 rfl rfl <| sr 5 rfl (.ptr (r' := 0) _ _ _ rfl) <| sr 8 rfl (.ptr (r' := 0) _ _ _ rfl) <| sr 9 rfl (rAgg (rld rfl)) <| sn) (.cons rfl (ro1 (by exact tZ_63.symm) (rlc (.row (r' := 1) rfl) <| rln)) <| .row 5 <| .nil) rfl rfl) ?_
  refine R_w _ _ rfl (w_callG [0, 1] (ok_ref0_Ink_Series_w h_y) (.cons (ov rfl) (.ptr _ _ _ rfl) <| .cons (ov rfl) (rAgg (rld rfl)) <| .nil) (.cons rfl (ro1 (by exact tZ_63.symm) (rlc (.own _ rfl) <| rln)) <| .cons rfl (roM D5) <| .nil) rfl (.lent 0 (.inl rfl) rfl (ro1 (by exact tZ_63.symm) (rlc (.own _ (.inl rfl)) <| rln)) <| .lent 1 (.inl rfl) rfl (roM D5) <| .nil) rfl rfl (rTup (rld rfl))) ?_
  refine R_nil ?_
  refine T_keep (kc 1 rfl <| kc 5 rfl <| kn) rfl ?_
  refine T_seq (T_reg ?_)
  refine R_q _ rfl (v_move (ov rfl)) ?_
  refine R_q _ rfl (v_move (ov rfl)) ?_
  obtain ⟨y2, h_y2, h⟩ := bnd h
  refine R_w _ _ rfl (w_callG [0, 1] (ok_ref0_Ink_Errno_w h_y2) (.cons (ov rfl) (.ptr _ _ _ rfl) <| .cons (ov rfl) (.dat rfl) <| .nil) (.cons rfl (ro1 (by exact tZ_63.symm) (rlc (.own _ rfl) <| rln)) <| .cons rfl (roM D5) <| .nil) rfl (.lent 0 (.inl rfl) rfl (ro1 (by exact tZ_63.symm) (rlc (.own _ (.inl rfl)) <| rln)) <| .lent 1 (.inl rfl) rfl (roM D5) <| .nil) rfl rfl (rTup (rld rfl))) ?_
  refine R_nil ?_
  refine T_keep (kc 5 rfl <| kn) rfl ?_
  refine T_seq (T_reg ?_)
  refine R_q _ rfl (v_move (ov rfl)) ?_
  obtain ⟨y3, h_y3, h⟩ := bnd h
  refine R_w _ _ rfl (w_callG [0, 1] (ok_ref0_Ink_Told_w h_y3) (.cons (ov rfl) (.ptr _ _ _ rfl) <| .nil) (.cons rfl (ro1 (by exact tZ_63.symm) (rlc (.own _ rfl) <| rln)) <| .cons rfl (roM D5) <| .nil) rfl (.lent 0 (.inl rfl) rfl (ro1 (by exact tZ_63.symm) (rlc (.own _ (.inl rfl)) <| rln)) <| .lent 1 (.inl rfl) rfl (roM D5) <| .nil) rfl rfl (.dat rfl)) ?_
  refine R_q _ rfl (v_assign (ov rfl)) ?_
  refine R_nil ?_
  obtain rfl := rt (v := y3) h
  refine T_ret (retq ?_ (.one (.tmp rfl (Dat.view (.b rfl)))))
  rfl

theorem ok_ref5_outside {n : Int} {low : Int} {high : Int} {r : Bool} (h : ref5_outside n low high = some r) :
    CSpec Tryd.prog gl0 42 [.int .i64 n, .int .i64 low, .int .i64 high] (.bool r) := by
  unfold ref5_outside at h
  replace h := bnd0 h
  refine spec_of (by kernel_rfl) Tryd.func42 rfl rfl ?_
  intro w0 A
  refine T_seq (T_reg ?_)
  refine R_q _ rfl (v_assign (ov rfl)) ?_
  refine R_nil ?_
  refine T_seq (T_reg ?_)
  refine R_q _ rfl (v_move (ov rfl)) ?_
  refine R_q _ rfl (v_move (ov rfl)) ?_
  refine R_q _ rfl (v_lss (ov rfl) (ov rfl)) ?_
  refine R_q _ rfl (v_move (ov rfl)) ?_
  refine R_q _ rfl (.guarded ((decide (n < low)) == false) rfl rfl rfl rfl fun h => v_move (ov rfl)) ?_
  refine R_q _ rfl (.guarded ((decide (n < low)) == false) rfl rfl rfl rfl fun h => v_move (ov rfl)) ?_
  refine R_q _ rfl (.guarded ((decide (n < low)) == false) rfl rfl rfl rfl fun h => v_gtr (ow rfl h) (ow rfl h)) ?_
  refine R_q _ rfl (v_or (ov rfl) (fun hp => ow rfl (gF hp))) ?_
  refine R_q _ rfl (v_assign (ov rfl)) ?_
  refine R_nil ?_
  obtain rfl := rt (v := ((decide (n < low)) || (decide (high < n)))) h
  refine T_ret (retq ?_ (.one (.tmp rfl (Dat.view (.b rfl)))))
  rfl

theorem ok_ref5_numbered {mark : Int} {r : Bool} (h : ref5_numbered mark = some r) :
    CSpec Tryd.prog gl0 74 [.int .i64 mark] (.bool r) := by
  unfold ref5_numbered at h
  replace h := bnd0 h
  refine spec_of (by kernel_rfl) Tryd.func74 rfl rfl ?_
  intro w0 A
  refine T_seq (T_reg ?_)
  refine R_q _ rfl (v_assign (ov rfl)) ?_
  refine R_nil ?_
  refine T_seq (T_reg ?_)
  refine R_q _ rfl (v_move (ov rfl)) ?_
  refine R_q _ rfl (v_geq (ov rfl) (ov rfl)) ?_
  refine R_q _ rfl (v_assign (ov rfl)) ?_
  refine R_nil ?_
  obtain rfl := rt (v := (decide (2 ≤ mark))) h
  refine T_ret (retq ?_ (.one (.tmp rfl (Dat.view (.b rfl)))))
  rfl

theorem ok_ref5_sampleFault {s : api_Sample} {r : Int} (h : ref5_sampleFault s = some r) :
    CSpec Tryd.prog gl0 82 [.agg [.int .i64 s.At, .int .i64 s.N, .int .i64 s.Mark]] (.int .i64 r) := by
  unfold ref5_sampleFault at h
  replace h := bnd0 h
  refine spec_of (by kernel_rfl) Tryd.func82 rfl rfl ?_
  intro w0 A
  refine T_seq (T_reg ?_)
  refine R_q _ rfl (v_boxD (cva (ov rfl)) rfl tZ_69 rfl) ?_
  refine R_q _ rfl (v_assign (ov rfl)) ?_
  refine R_nil ?_
  refine T_seq ?_
  refine T_keep (kc 1 rfl <| kn) rfl ?_
  refine T_seq (T_reg ?_)
  refine R_q _ rfl (v_fieldR (ov rfl) tF69_0) ?_
  refine R_q _ rfl (v_loadS_r (ov rfl) tS3 rfl) ?_
  obtain ⟨y, h_y, h⟩ := bnd h
  refine R_q _ rfl (v_call (ok_ref5_outside h_y) (.cons (ov rfl) (.b rfl) <| .cons (ov rfl) (.b rfl) <| .cons (ov rfl) (.b rfl) <| .nil)) ?_
  refine R_q _ rfl (v_move (ov rfl)) ?_
  refine R_q _ rfl (.guarded (y == false) rfl rfl rfl rfl fun h => v_fieldR (ov rfl) tF69_1) ?_
  refine R_q _ rfl (.guarded (y == false) rfl rfl rfl rfl fun h => v_loadS_r (ow rfl h) tS3 rfl) ?_
  obtain ⟨y2, h_y2, h⟩ := bnd h
  refine R_q _ rfl (.guarded (y == false) rfl rfl rfl rfl fun h => v_call (ok_ref5_outside (gdT h_y2 h)) (.cons (ow rfl h) (.b rfl) <| .cons (ov rfl) (.b rfl) <| .cons (ov rfl) (.b rfl) <| .nil)) ?_
  refine R_q _ rfl (v_or (ov rfl) (fun hp => ow rfl (gF hp))) ?_
  refine R_q _ rfl (v_move (ov rfl)) ?_
  refine R_q _ rfl (.guarded ((y || y2) == false) rfl rfl rfl rfl fun h => v_fieldR (ov rfl) tF69_2) ?_
  refine R_q _ rfl (.guarded ((y || y2) == false) rfl rfl rfl rfl fun h => v_loadS_r (ow rfl h) tS3 rfl) ?_
  obtain ⟨y3, h_y3, h⟩ := bnd h
  refine R_q _ rfl (.guarded ((y || y2) == false) rfl rfl rfl rfl fun h => v_call (ok_ref5_outside (gdT h_y3 h)) (.cons (ow rfl h) (.b rfl) <| .cons (ov rfl) (.b rfl) <| .cons (ov rfl) (.b rfl) <| .nil)) ?_
  refine R_q _ rfl (v_or (ov rfl) (fun hp => ow rfl (gF hp))) ?_
  refine R_nil ?_
  refine T_keep (kc 1 rfl <| kc 15 rfl <| kn) rfl ?_
  refine T_if h rfl (fun b15 h => ?_) (fun b15 h => ?_)
  · skip
    refine T_keep (kn) rfl ?_
    refine T_seq (T_reg ?_)
    refine R_q _ rfl (v_assign (ov rfl)) ?_
    refine R_nil ?_
    obtain rfl := rt (v := 9) h
    refine T_ret (retq ?_ (.one (.tmp rfl (Dat.view (.b rfl)))))
    rfl
  · skip
    refine T_skip ?_
    refine T_seq ?_
    refine T_keep (kc 1 rfl <| kn) rfl ?_
    refine T_seq (T_reg ?_)
    refine R_q _ rfl (v_fieldR (ov rfl) tF69_1) ?_
    refine R_q _ rfl (v_loadS_r (ov rfl) tS3 rfl) ?_
    refine R_q _ rfl (v_neq (ov rfl) (ov rfl)) ?_
    refine R_q _ rfl (v_move (ov rfl)) ?_
    refine R_q _ rfl (.guarded ((!decide (s.N = 0)) == true) rfl rfl rfl rfl fun h => v_fieldR (ov rfl) tF69_2) ?_
    refine R_q _ rfl (.guarded ((!decide (s.N = 0)) == true) rfl rfl rfl rfl fun h => v_loadS_r (ow rfl h) tS3 rfl) ?_
    obtain ⟨y4, h_y4, h⟩ := bnd h
    refine R_q _ rfl (.guarded ((!decide (s.N = 0)) == true) rfl rfl rfl rfl fun h => v_call (ok_ref5_numbered (gdT h_y4 h)) (.cons (ow rfl h) (.b rfl) <| .nil)) ?_
    refine R_q _ rfl (.guarded ((!decide (s.N = 0)) == true) rfl rfl rfl rfl fun h => v_not (ow rfl h)) ?_
    refine R_q _ rfl (v_and (ov rfl) (fun hp => ow rfl (gT hp))) ?_
    refine R_nil ?_
    refine T_keep (kc 24 rfl <| kn) rfl ?_
    refine T_if h rfl (fun b24 h => ?_) (fun b24 h => ?_)
    · skip
      refine T_keep (kn) rfl ?_
      refine T_seq (T_reg ?_)
      refine R_q _ rfl (v_assign (ov rfl)) ?_
      refine R_nil ?_
      obtain rfl := rt (v := 2) h
      refine T_ret (retq ?_ (.one (.tmp rfl (Dat.view (.b rfl)))))
      rfl
    · skip
      refine T_skip ?_
      refine T_keep (kn) rfl ?_
      refine T_seq (T_reg ?_)
      refine R_q _ rfl (v_assign (ov rfl)) ?_
      refine R_nil ?_
      obtain rfl := rt (v := 0) h
      refine T_ret (retq ?_ (.one (.tmp rfl (Dat.view (.b rfl)))))
      rfl

theorem ok_ref5_fault {s : api_Series} {r : Int × Int} (h : ref5_fault s = some r) :
    CSpec Tryd.prog gl0 69 [.agg [.int .i64 s.Den, .sl 69 (List.map R69 s.Samples)]] (.tuple [.int .i64 r.1, .int .i64 r.2]) := by
  unfold ref5_fault at h
  replace h := bnd0 h
  refine spec_of (by kernel_rfl) Tryd.func69 rfl rfl ?_
  intro w0 A
  refine T_seq (T_reg ?_)
  refine R_q _ rfl (v_boxD (cva (ov rfl)) rfl tZ_24 rfl) ?_
  refine R_q _ rfl (v_assign (ov rfl)) ?_
  refine R_q _ rfl (v_assign (ov rfl)) ?_
  refine R_nil ?_
  refine T_seq ?_
  refine T_keep (kc 1 rfl <| kn) rfl ?_
  refine T_seq (T_reg ?_)
  refine R_q _ rfl (v_fieldR (ov rfl) tF24_0) ?_
  refine R_q _ rfl (v_loadS_r (ov rfl) tS3 rfl) ?_
  obtain ⟨y, h_y, h⟩ := bnd h
  refine R_q _ rfl (v_call (ok_ref5_outside h_y) (.cons (ov rfl) (.b rfl) <| .cons (ov rfl) (.b rfl) <| .cons (ov rfl) (.b rfl) <| .nil)) ?_
  refine R_nil ?_
  refine T_keep (kc 1 rfl <| kc 8 rfl <| kn) rfl ?_
  refine T_if h rfl (fun b8 h => ?_) (fun b8 h => ?_)
  · skip
    refine T_keep (kn) rfl ?_
    refine T_seq (T_reg ?_)
    refine R_q _ rfl (v_assign (ov rfl)) ?_
    refine R_q _ rfl (v_assign (ov rfl)) ?_
    refine R_nil ?_
    obtain rfl := rt (v := ((-1), 9)) h
    refine T_ret (retq ?_ (.two (.tmp rfl (Dat.view (.b rfl))) (.tmp rfl (Dat.view (.b rfl)))))
    rfl
  · skip
    refine T_skip ?_
    refine T_seq ?_
    refine T_keep (kc 1 rfl <| kn) rfl ?_
    refine T_seq (T_reg ?_)
    refine R_q _ rfl (v_fieldR (ov rfl) tF24_1) ?_
    refine R_q _ rfl (v_loadS_r (ov rfl) tS22 rfl) ?_
    refine R_q _ rfl (v_len (slv_sl (ov rfl) tZ_69) tL22 (len_map _ _)) ?_
    refine R_q _ rfl (v_gtr (ov rfl) (ov rfl)) ?_
    refine R_nil ?_
    refine T_keep (kc 1 rfl <| kc 12 rfl <| kn) rfl ?_
    refine T_if h rfl (fun b12 h => ?_) (fun b12 h => ?_)
    · skip
      refine T_keep (kn) rfl ?_
      refine T_seq (T_reg ?_)
      refine R_q _ rfl (v_assign (ov rfl)) ?_
      refine R_q _ rfl (v_assign (ov rfl)) ?_
      refine R_nil ?_
      obtain rfl := rt (v := ((-1), 3)) h
      refine T_ret (retq ?_ (.two (.tmp rfl (Dat.view (.b rfl))) (.tmp rfl (Dat.view (.b rfl)))))
      rfl
    · skip
      refine T_skip ?_
      refine T_joinG (fun j => (.inr j)) (t0 ⟨[], []⟩) h (fun h => ?_) (fun j h => ?_)
      · skip
        refine T_keep (kc 1 rfl <| kn) rfl ?_
        refine T_seq (T_reg ?_)
        refine R_q _ rfl (v_assign (ov rfl)) ?_
        refine R_nil ?_
        refine T_block ?_
        obtain ⟨r1, hl1, ho1⟩ := bndL h
        refine T_loopG _ (t1 fun i => ⟨[(1, .rp [.int .i64 s.Den, .sl 69 (List.map R69 s.Samples)] 0), (4, .int .i64 i)], []⟩) _ hl1 (Ent.sel [] (sd 1 rfl rfl <| sd 4 rfl rfl <| sn) (.nil) rfl rfl) (fun n1 s1 h => ?_)
        obtain ⟨i, rfl⟩ : ∃ x, x = s1 := ⟨_, rfl⟩
        replace h := t1i h
        refine t1T ?_
        unfold ref5_fault_L1 at h
        refine T_seq ?_
        refine T_seq (T_reg ?_)
        refine R_q _ rfl (v_move (ov rfl)) ?_
        refine R_q _ rfl (v_fieldR (ov rfl) tF24_1) ?_
        refine R_q _ rfl (v_loadS_r (ov rfl) tS22 rfl) ?_
        refine R_q _ rfl (v_len (slv_sl (ov rfl) tZ_69) tL22 (len_map _ _)) ?_
        refine R_q _ rfl (v_lss (ov rfl) (ov rfl)) ?_
        refine R_nil ?_
        refine T_keep (kc 1 rfl <| kc 4 rfl <| kc 17 rfl <| kn) rfl ?_
        refine T_if h rfl (fun b17 h => ?_) (fun b17 h => ?_)
        · skip
          refine T_skip ?_
          refine T_seq ?_
          refine T_block ?_
          refine T_seq ?_
          refine T_keep (kc 1 rfl <| kc 4 rfl <| kn) rfl ?_
          refine T_seq (T_reg ?_)
          refine R_q _ rfl (v_fieldR (ov rfl) tF24_1) ?_
          refine R_q _ rfl (v_loadS_r (ov rfl) tS22 rfl) ?_
          refine R_q _ rfl (v_move (ov rfl)) ?_
          obtain ⟨x, h_x, h⟩ := bnd h
          refine R_q _ rfl (v_ixSG (ov rfl) (ov rfl) tL22 h_x) ?_
          refine R_q _ rfl (v_loadA_r (ov rfl) tA69 rfl rfl) ?_
          obtain ⟨y2, h_y2, h⟩ := bnd h
          refine R_q _ rfl (v_call (ok_ref5_sampleFault h_y2) (.cons (ov rfl) (.aggB rfl) <| .nil)) ?_
          refine R_q _ rfl (v_assign (ov rfl)) ?_
          refine R_nil ?_
          refine T_keep (kc 1 rfl <| kc 4 rfl <| kc 5 rfl <| kn) rfl ?_
          refine T_seq (T_reg ?_)
          refine R_q _ rfl (v_move (ov rfl)) ?_
          refine R_q _ rfl (v_neq (ov rfl) (ov rfl)) ?_
          refine R_nil ?_
          refine T_keep (kc 1 rfl <| kc 4 rfl <| kc 5 rfl <| kc 27 rfl <| kn) rfl ?_
          refine T_if h rfl (fun b27 h => ?_) (fun b27 h => ?_)
          · skip
            refine T_keep (kc 4 rfl <| kc 5 rfl <| kn) rfl ?_
            refine T_seq (T_reg ?_)
            refine R_q _ rfl (v_move (ov rfl)) ?_
            refine R_q _ rfl (v_move (ov rfl)) ?_
            refine R_q _ rfl (v_assign (ov rfl)) ?_
            refine R_q _ rfl (v_assign (ov rfl)) ?_
            refine R_nil ?_
            rw [lx h] at ho1
            replace h := ho1
            obtain rfl := rt (v := (i, y2)) h
            refine T_ret (retq ?_ (.two (.tmp rfl (Dat.view (.b rfl))) (.tmp rfl (Dat.view (.b rfl)))))
            rfl
          · skip
            refine T_skip ?_
            refine T_keep (kc 1 rfl <| kc 4 rfl <| kn) rfl ?_
            refine T_seq (T_draw (cw := md0) (by kernel_rfl) ?_)
            refine D_free 0 _ rfl (by kernel_rfl) rfl rfl (fun hp' => v_move (ov rfl)) ?_
            refine D_free 1 _ rfl (by kernel_rfl) rfl rfl (fun hp' => v_gtr (ov rfl) (ov rfl)) ?_
            refine D_free 2 _ rfl (by kernel_rfl) rfl rfl (fun hp' => v_move (ov rfl)) ?_
            refine D_read 3 _ rfl (by kernel_rfl) rfl rfl rfl ExtW.refl (fun hp' hx => .guarded ((decide (0 < i)) == true) rfl rfl rfl rfl fun h => v_fieldR (ov rfl) tF24_1) ?_
            refine D_read 4 _ rfl (by kernel_rfl) rfl rfl rfl ExtW.refl (fun hp' hx => .guarded ((decide (0 < i)) == true) rfl rfl rfl rfl fun h => v_loadS_r (ow rfl h) tS22 rfl) ?_
            refine D_free 5 _ rfl (by kernel_rfl) rfl rfl (fun hp' => .guarded ((decide (0 < i)) == true) rfl rfl rfl rfl fun h => v_move (ov rfl)) ?_
            obtain ⟨x2, h_x2, h⟩ := bnd h
            refine D_read 6 _ rfl (by kernel_rfl) rfl rfl rfl ExtW.refl (fun hp' hx => .guarded ((decide (0 < i)) == true) rfl rfl rfl rfl fun h => v_ixSG (ow rfl h) (ow rfl h) tL22 (gdT h_x2 h)) ?_
            refine D_read 7 _ rfl (by kernel_rfl) rfl rfl rfl ExtW.refl (fun hp' hx => .guarded ((decide (0 < i)) == true) rfl rfl rfl rfl fun h => v_fieldR (ow rfl h) tF69_0) ?_
            refine D_read 8 _ rfl (by kernel_rfl) rfl rfl rfl ExtW.refl (fun hp' hx => .guarded ((decide (0 < i)) == true) rfl rfl rfl rfl fun h => v_loadS_r (ow rfl h) tS3 rfl) ?_
            refine D_read 9 _ rfl (by kernel_rfl) rfl rfl rfl ExtW.refl (fun hp' hx => .guarded ((decide (0 < i)) == true) rfl rfl rfl rfl fun h => v_fieldR (ov rfl) tF24_1) ?_
            refine D_read 10 _ rfl (by kernel_rfl) rfl rfl rfl ExtW.refl (fun hp' hx => .guarded ((decide (0 < i)) == true) rfl rfl rfl rfl fun h => v_loadS_r (ow rfl h) tS22 rfl) ?_
            refine D_free 11 _ rfl (by kernel_rfl) rfl rfl (fun hp' => .guarded ((decide (0 < i)) == true) rfl rfl rfl rfl fun h => v_move (ov rfl)) ?_
            refine D_free 12 _ rfl (by kernel_rfl) rfl rfl (fun hp' => .guarded ((decide (0 < i)) == true) rfl rfl rfl rfl fun h => v_sub (ow rfl h) (ov rfl) rfl) ?_
            obtain ⟨x3, h_x3, h⟩ := bnd h
            refine D_read 13 _ rfl (by kernel_rfl) rfl rfl rfl ExtW.refl (fun hp' hx => .guarded ((decide (0 < i)) == true) rfl rfl rfl rfl fun h => v_ixSG (ow rfl h) (ow rfl h) tL22 (gdT h_x3 h)) ?_
            refine D_read 14 _ rfl (by kernel_rfl) rfl rfl rfl ExtW.refl (fun hp' hx => .guarded ((decide (0 < i)) == true) rfl rfl rfl rfl fun h => v_fieldR (ow rfl h) tF69_0) ?_
            refine D_read 15 _ rfl (by kernel_rfl) rfl rfl rfl ExtW.refl (fun hp' hx => .guarded ((decide (0 < i)) == true) rfl rfl rfl rfl fun h => v_loadS_r (ow rfl h) tS3 rfl) ?_
            refine D_free 16 _ rfl (by kernel_rfl) rfl rfl (fun hp' => .guarded ((decide (0 < i)) == true) rfl rfl rfl rfl fun h => v_leq (ow rfl h) (ow rfl h)) ?_
            refine D_free 17 _ rfl (by kernel_rfl) rfl rfl (fun hp' => v_and (ov rfl) (fun hp => ow rfl (gT hp))) ?_
            refine D_done (by kernel_rfl) ?_
            refine T_keep (kc 1 rfl <| kc 4 rfl <| kc 47 rfl <| kn) rfl ?_
            refine T_if h rfl (fun b47 h => ?_) (fun b47 h => ?_)
            · skip
              refine T_keep (kc 4 rfl <| kn) rfl ?_
              refine T_seq (T_reg ?_)
              refine R_q _ rfl (v_move (ov rfl)) ?_
              refine R_q _ rfl (v_assign (ov rfl)) ?_
              refine R_q _ rfl (v_assign (ov rfl)) ?_
              refine R_nil ?_
              rw [lx h] at ho1
              replace h := ho1
              obtain rfl := rt (v := (i, 10)) h
              refine T_ret (retq ?_ (.two (.tmp rfl (Dat.view (.b rfl))) (.tmp rfl (Dat.view (.b rfl)))))
              rfl
            · skip
              refine T_skip ?_
              refine T_keep (kc 1 rfl <| kc 4 rfl <| kn) rfl ?_
              refine T_reg ?_
              refine R_q _ rfl (v_move (ov rfl)) ?_
              refine R_q _ rfl (v_add (ov rfl) (ov rfl) rfl) ?_
              refine R_q _ rfl (v_assign (ov rfl)) ?_
              refine R_nil ?_
              exact ⟨(i64 (i + 1)), h, Ent.sel [] (sd 1 rfl rfl <| sd 4 rfl rfl <| sn) (.nil) rfl rfl⟩
        · skip
          refine T_exit ?_
          rw [lx h] at ho1
          replace h := ho1
          exact ⟨(), h, Ent.sel [] (sn) (.nil) rfl rfl⟩
      · skip
        replace h := elr h
        cases j
        replace h := t0i h
        refine t0T ?_
        refine T_seq (T_reg ?_)
        refine R_q _ rfl (v_assign (ov rfl)) ?_
        refine R_q _ rfl (v_assign (ov rfl)) ?_
        refine R_nil ?_
        obtain rfl := rt (v := ((-1), 0)) h
        refine T_ret (retq ?_ (.two (.tmp rfl (Dat.view (.b rfl))) (.tmp rfl (Dat.view (.b rfl)))))
        rfl

theorem ok_ref5_Check {s : api_Series} {r : Int} (h : ref5_Check s = some r) :
    CSpec Tryd.prog gl0 33 [.agg [.int .i64 s.Den, .sl 69 (List.map R69 s.Samples)]] (.int .i64 r) := by
  unfold ref5_Check at h
  replace h := bnd0 h
  refine spec_of (by kernel_rfl) Tryd.func33 rfl rfl ?_
  intro w0 A
  refine T_seq (T_reg ?_)
  refine R_q _ rfl (v_boxD (cva (ov rfl)) rfl tZ_24 rfl) ?_
  refine R_q _ rfl (v_assign (ov rfl)) ?_
  refine R_nil ?_
  refine T_keep (kc 1 rfl <| kn) rfl ?_
  refine T_seq (T_reg ?_)
  refine R_q _ rfl (v_loadA_r (ov rfl) tA24 rfl rfl) ?_
  obtain ⟨y, h_y, h⟩ := bnd h
  refine R_q _ rfl (v_call (ok_ref5_fault h_y) (.cons (ov rfl) (.aggB rfl) <| .nil)) ?_
  refine R_q _ rfl (v_move (ov rfl)) ?_
  refine R_q _ rfl (v_extract (ov rfl) rfl) ?_
  refine R_q _ rfl (v_extract (ov rfl) rfl) ?_
  refine R_q _ rfl (v_assign (ov rfl)) ?_
  refine R_q _ rfl (v_assign (ov rfl)) ?_
  refine R_nil ?_
  refine T_keep (kc 4 rfl <| kn) rfl ?_
  refine T_seq (T_reg ?_)
  refine R_q _ rfl (v_move (ov rfl)) ?_
  refine R_q _ rfl (v_assign (ov rfl)) ?_
  refine R_nil ?_
  obtain rfl := rt (v := y.2) h
  refine T_ret (retq ?_ (.one (.tmp rfl (Dat.view (.b rfl)))))
  rfl

theorem ok_ref5_pairFault {a : api_Series} {b : api_Series} {r : Int} (h : ref5_pairFault a b = some r) :
    CSpec Tryd.prog gl0 46 [.agg [.int .i64 a.Den, .sl 69 (List.map R69 a.Samples)], .agg [.int .i64 b.Den, .sl 69 (List.map R69 b.Samples)]] (.int .i64 r) := by
  unfold ref5_pairFault at h
  replace h := bnd0 h
  refine spec_of (by kernel_rfl) Tryd.func46 rfl rfl ?_
  intro w0 A
  refine T_seq (T_reg ?_)
  refine R_q _ rfl (v_boxD (cva (ov rfl)) rfl tZ_24 rfl) ?_
  refine R_q _ rfl (v_boxD (cva (ov rfl)) rfl tZ_24 rfl) ?_
  refine R_q _ rfl (v_assign (ov rfl)) ?_
  refine R_nil ?_
  refine T_seq ?_
  refine T_keep (kc 2 rfl <| kc 3 rfl <| kn) rfl ?_
  refine T_seq (T_reg ?_)
  refine R_q _ rfl (v_loadA_r (ov rfl) tA24 rfl rfl) ?_
  obtain ⟨y, h_y, h⟩ := bnd h
  refine R_q _ rfl (v_call (ok_ref5_Check h_y) (.cons (ov rfl) (.aggB rfl) <| .nil)) ?_
  refine R_q _ rfl (v_assign (ov rfl)) ?_
  refine R_nil ?_
  refine T_keep (kc 2 rfl <| kc 3 rfl <| kc 5 rfl <| kn) rfl ?_
  refine T_seq (T_reg ?_)
  refine R_q _ rfl (v_move (ov rfl)) ?_
  refine R_q _ rfl (v_neq (ov rfl) (ov rfl)) ?_
  refine R_nil ?_
  refine T_keep (kc 2 rfl <| kc 3 rfl <| kc 5 rfl <| kc 10 rfl <| kn) rfl ?_
  refine T_if h rfl (fun b10 h => ?_) (fun b10 h => ?_)
  · skip
    refine T_keep (kc 5 rfl <| kn) rfl ?_
    refine T_seq (T_reg ?_)
    refine R_q _ rfl (v_move (ov rfl)) ?_
    refine R_q _ rfl (v_assign (ov rfl)) ?_
    refine R_nil ?_
    obtain rfl := rt (v := y) h
    refine T_ret (retq ?_ (.one (.tmp rfl (Dat.view (.b rfl)))))
    rfl
  · skip
    refine T_skip ?_
    refine T_seq ?_
    refine T_keep (kc 2 rfl <| kc 3 rfl <| kn) rfl ?_
    refine T_seq (T_reg ?_)
    refine R_q _ rfl (v_loadA_r (ov rfl) tA24 rfl rfl) ?_
    obtain ⟨y2, h_y2, h⟩ := bnd h
    refine R_q _ rfl (v_call (ok_ref5_Check h_y2) (.cons (ov rfl) (.aggB rfl) <| .nil)) ?_
    refine R_q _ rfl (v_assign (ov rfl)) ?_
    refine R_nil ?_
    refine T_keep (kc 2 rfl <| kc 3 rfl <| kc 6 rfl <| kn) rfl ?_
    refine T_seq (T_reg ?_)
    refine R_q _ rfl (v_move (ov rfl)) ?_
    refine R_q _ rfl (v_neq (ov rfl) (ov rfl)) ?_
    refine R_nil ?_
    refine T_keep (kc 2 rfl <| kc 3 rfl <| kc 6 rfl <| kc 15 rfl <| kn) rfl ?_
    refine T_if h rfl (fun b15 h => ?_) (fun b15 h => ?_)
    · skip
      refine T_keep (kc 6 rfl <| kn) rfl ?_
      refine T_seq (T_reg ?_)
      refine R_q _ rfl (v_move (ov rfl)) ?_
      refine R_q _ rfl (v_assign (ov rfl)) ?_
      refine R_nil ?_
      obtain rfl := rt (v := y2) h
      refine T_ret (retq ?_ (.one (.tmp rfl (Dat.view (.b rfl)))))
      rfl
    · skip
      refine T_skip ?_
      refine T_seq ?_
      refine T_keep (kc 2 rfl <| kc 3 rfl <| kn) rfl ?_
      refine T_seq (T_reg ?_)
      refine R_q _ rfl (v_fieldR (ov rfl) tF24_0) ?_
      refine R_q _ rfl (v_loadS_r (ov rfl) tS3 rfl) ?_
      refine R_q _ rfl (v_fieldR (ov rfl) tF24_0) ?_
      refine R_q _ rfl (v_loadS_r (ov rfl) tS3 rfl) ?_
      refine R_q _ rfl (v_neq (ov rfl) (ov rfl)) ?_
      refine R_nil ?_
      refine T_keep (kc 21 rfl <| kn) rfl ?_
      refine T_if h rfl (fun b21 h => ?_) (fun b21 h => ?_)
      · skip
        refine T_keep (kn) rfl ?_
        refine T_seq (T_reg ?_)
        refine R_q _ rfl (v_assign (ov rfl)) ?_
        refine R_nil ?_
        obtain rfl := rt (v := 2) h
        refine T_ret (retq ?_ (.one (.tmp rfl (Dat.view (.b rfl)))))
        rfl
      · skip
        refine T_skip ?_
        refine T_keep (kn) rfl ?_
        refine T_seq (T_reg ?_)
        refine R_q _ rfl (v_assign (ov rfl)) ?_
        refine R_nil ?_
        obtain rfl := rt (v := 0) h
        refine T_ret (retq ?_ (.one (.tmp rfl (Dat.view (.b rfl)))))
        rfl

theorem ok_ref5_solid {mark : Int} {r : Bool} (h : ref5_solid mark = some r) :
    CSpec Tryd.prog gl0 55 [.int .i64 mark] (.bool r) := by
  unfold ref5_solid at h
  replace h := bnd0 h
  refine spec_of (by kernel_rfl) Tryd.func55 rfl rfl ?_
  intro w0 A
  refine T_seq (T_reg ?_)
  refine R_q _ rfl (v_assign (ov rfl)) ?_
  refine R_nil ?_
  refine T_seq (T_reg ?_)
  refine R_q _ rfl (v_move (ov rfl)) ?_
  refine R_q _ rfl (v_geq (ov rfl) (ov rfl)) ?_
  refine R_q _ rfl (v_assign (ov rfl)) ?_
  refine R_nil ?_
  obtain rfl := rt (v := (decide (3 ≤ mark))) h
  refine T_ret (retq ?_ (.one (.tmp rfl (Dat.view (.b rfl)))))
  rfl

theorem ok_ref5_Held {s : api_Series} {at_ : Int} {long : Int} {r : api_Sample × Bool} (h : ref5_Held s at_ long = some r) :
    CSpec Tryd.prog gl0 43 [.agg [.int .i64 s.Den, .sl 69 (List.map R69 s.Samples)], .int .i64 at_, .int .i64 long] (.tuple [.agg [.int .i64 r.1.At, .int .i64 r.1.N, .int .i64 r.1.Mark], .bool r.2]) := by
  unfold ref5_Held at h
  replace h := bnd0 h
  refine spec_of (by kernel_rfl) Tryd.func43 rfl rfl ?_
  intro w0 A
  refine T_seq (T_reg ?_)
  refine R_q _ rfl (v_boxD (cva (ov rfl)) rfl tZ_24 rfl) ?_
  refine R_w _ _ rfl (w_alloc (row := [_, _, _]) 0 rfl tZ69 rfl tZ_69) ?_
  refine R_q _ rfl (v_assign (ov rfl)) ?_
  refine R_nil ?_
  refine T_keep (kc 1 rfl <| kc 2 rfl <| kc 3 rfl <| kc 6 rfl <| kn) rfl ?_
  refine T_seq (T_draw (cw := md0) (by kernel_rfl) ?_)
  refine D_read 0 _ rfl (by kernel_rfl) rfl rfl rfl ExtW.refl (fun hp' hx => v_fieldR (ov rfl) tF24_1) ?_
  refine D_read 1 _ rfl (by kernel_rfl) rfl rfl rfl ExtW.refl (fun hp' hx => v_loadS_r (ov rfl) tS22 rfl) ?_
  refine D_read 2 _ rfl (by kernel_rfl) rfl rfl rfl ExtW.refl (fun hp' hx => v_len (slv_sl (ov rfl) tZ_69) tL22 (len_map _ _)) ?_
  refine D_free 3 _ rfl (by kernel_rfl) rfl rfl (fun hp' => v_assign (ov rfl)) ?_
  refine D_free 4 _ rfl (by kernel_rfl) rfl rfl (fun hp' => v_assign (ov rfl)) ?_
  refine D_done (by kernel_rfl) ?_
  refine T_joinG id (t1 fun low => ⟨[(1, .int .i64 at_), (2, .int .i64 long), (3, .rp [.int .i64 s.Den, .sl 69 (List.map R69 s.Samples)] 0), (6, .ptr 0 1 0 0), (8, .int .i64 low)], [some ⟨69, [[.int .i64 0, .int .i64 0, .int .i64 0]]⟩]⟩) h (fun h => ?_) (fun j h => ?_)
  · skip
    refine T_block ?_
    obtain ⟨r1, hl1, ho1⟩ := bndL h
    refine T_loopG _ (t2 fun low2 high => ⟨[(1, .int .i64 at_), (2, .int .i64 long), (3, .rp [.int .i64 s.Den, .sl 69 (List.map R69 s.Samples)] 0), (6, .ptr 0 1 0 0), (8, .int .i64 low2), (9, .int .i64 high)], [some ⟨69, [[.int .i64 0, .int .i64 0, .int .i64 0]]⟩]⟩) _ hl1 (Ent.sel [some 0] (sd 1 rfl rfl <| sd 2 rfl rfl <| sd 3 rfl rfl <| sr 6 rfl (.ptr _ _ _ rfl) <| sd 8 rfl rfl <| sd 9 rfl rfl <| sn) (.cons rfl (ro1 (by exact tZ_69.symm) (rld rfl)) <| .nil) rfl rfl) (fun n1 s1 h => ?_)
    obtain ⟨low2, high⟩ := s1
    replace h := t2i h
    refine t2T ?_
    unfold ref5_Held_L1 at h
    refine T_seq ?_
    refine T_seq (T_reg ?_)
    refine R_q _ rfl (v_move (ov rfl)) ?_
    refine R_q _ rfl (v_move (ov rfl)) ?_
    refine R_q _ rfl (v_lss (ov rfl) (ov rfl)) ?_
    refine R_nil ?_
    refine T_keep (kc 1 rfl <| kc 2 rfl <| kc 3 rfl <| kc 6 rfl <| kc 8 rfl <| kc 9 rfl <| kc 17 rfl <| kn) rfl ?_
    refine T_if h rfl (fun b17 h => ?_) (fun b17 h => ?_)
    · skip
      refine T_skip ?_
      refine T_block ?_
      refine T_keep (kc 1 rfl <| kc 2 rfl <| kc 3 rfl <| kc 6 rfl <| kc 8 rfl <| kc 9 rfl <| kn) rfl ?_
      refine T_seq (T_reg ?_)
      refine R_q _ rfl (v_move (ov rfl)) ?_
      refine R_q _ rfl (v_move (ov rfl)) ?_
      refine R_q _ rfl (v_add (ov rfl) (ov rfl) rfl) ?_
      obtain ⟨q, h_q, h⟩ := bnd h
      refine R_q _ rfl (v_quoG (ov rfl) (ov rfl) h_q) ?_
      refine R_q _ rfl (v_assign (ov rfl)) ?_
      refine R_nil ?_
      refine T_keep (kc 1 rfl <| kc 2 rfl <| kc 3 rfl <| kc 6 rfl <| kc 8 rfl <| kc 9 rfl <| kc 10 rfl <| kn) rfl ?_
      refine T_seq (T_reg ?_)
      refine R_q _ rfl (v_fieldR (ov rfl) tF24_1) ?_
      refine R_q _ rfl (v_loadS_r (ov rfl) tS22 rfl) ?_
      refine R_q _ rfl (v_move (ov rfl)) ?_
      obtain ⟨x, h_x, h⟩ := bnd h
      refine R_q _ rfl (v_ixSG (ov rfl) (ov rfl) tL22 h_x) ?_
      refine R_q _ rfl (v_fieldR (ov rfl) tF69_0) ?_
      refine R_q _ rfl (v_loadS_r (ov rfl) tS3 rfl) ?_
      refine R_q _ rfl (v_move (ov rfl)) ?_
      refine R_q _ rfl (v_leq (ov rfl) (ov rfl)) ?_
      refine R_nil ?_
      refine T_keep (kc 1 rfl <| kc 2 rfl <| kc 3 rfl <| kc 6 rfl <| kc 8 rfl <| kc 9 rfl <| kc 10 rfl <| kc 29 rfl <| kn) rfl ?_
      refine T_if h rfl (fun b29 h => ?_) (fun b29 h => ?_)
      · skip
        refine T_keep (kc 1 rfl <| kc 2 rfl <| kc 3 rfl <| kc 6 rfl <| kc 8 rfl <| kc 9 rfl <| kc 10 rfl <| kn) rfl ?_
        refine T_reg ?_
        refine R_q _ rfl (v_move (ov rfl)) ?_
        refine R_q _ rfl (v_add (ov rfl) (ov rfl) rfl) ?_
        refine R_q _ rfl (v_assign (ov rfl)) ?_
        refine R_nil ?_
        exact ⟨((i64 (q + 1)), high), h, Ent.sel [some 0] (sd 1 rfl rfl <| sd 2 rfl rfl <| sd 3 rfl rfl <| sr 6 rfl (.ptr _ _ _ rfl) <| sd 8 rfl rfl <| sd 9 rfl rfl <| sn) (.cons rfl (ro1 (by exact tZ_69.symm) (rld rfl)) <| .nil) rfl rfl⟩
      · skip
        refine T_keep (kc 1 rfl <| kc 2 rfl <| kc 3 rfl <| kc 6 rfl <| kc 8 rfl <| kc 9 rfl <| kc 10 rfl <| kn) rfl ?_
        refine T_reg ?_
        refine R_q _ rfl (v_move (ov rfl)) ?_
        refine R_q _ rfl (v_assign (ov rfl)) ?_
        refine R_nil ?_
        exact ⟨(low2, q), h, Ent.sel [some 0] (sd 1 rfl rfl <| sd 2 rfl rfl <| sd 3 rfl rfl <| sr 6 rfl (.ptr _ _ _ rfl) <| sd 8 rfl rfl <| sd 9 rfl rfl <| sn) (.cons rfl (ro1 (by exact tZ_69.symm) (rld rfl)) <| .nil) rfl rfl⟩
    · skip
      refine T_exit ?_
      rw [lx h] at ho1
      replace h := ho1
      exact ⟨low2, h, Ent.sel [some 0] (sd 1 rfl rfl <| sd 2 rfl rfl <| sd 3 rfl rfl <| sr 6 rfl (.ptr _ _ _ rfl) <| sd 8 rfl rfl <| sn) (.cons rfl (ro1 (by exact tZ_69.symm) (rld rfl)) <| .nil) rfl rfl⟩
  · skip
    obtain ⟨low, rfl⟩ : ∃ x, x = j := ⟨_, rfl⟩
    replace h := t1i h
    refine t1T ?_
    refine T_seq ?_
    refine T_seq (T_reg ?_)
    refine R_q _ rfl (v_move (ov rfl)) ?_
    refine R_q _ rfl (v_eql (ov rfl) (ov rfl)) ?_
    refine R_nil ?_
    refine T_keep (kc 1 rfl <| kc 2 rfl <| kc 3 rfl <| kc 6 rfl <| kc 8 rfl <| kc 34 rfl <| kn) rfl ?_
    refine T_if h rfl (fun b34 h => ?_) (fun b34 h => ?_)
    · skip
      refine T_keep (kc 6 rfl <| kn) rfl ?_
      refine T_seq (T_reg ?_)
      refine R_q _ rfl (v_build (ys := [_, _, _]) tPL69 tHA69 tZ69 (.nil) rfl) ?_
      refine R_w _ _ rfl (w_store (ov rfl) (ov rfl) (cells_agg tA69 rfl) rfl rfl rfl (Nat.le_of_ble_eq_true rfl) (cell1_all rfl) rfl) ?_
      refine R_q _ rfl (v_assign (ov rfl)) ?_
      refine R_nil ?_
      obtain rfl := rt (v := ((api_Sample.mk 0 0 0), false)) h
      refine T_ret (retq ?_ (.two (.agg rfl rfl rfl rfl tA69 rfl rfl (pwB rfl)) (.tmp rfl (Dat.view (.b rfl)))))
      rfl
    · skip
      refine T_skip ?_
      refine T_keep (kc 1 rfl <| kc 2 rfl <| kc 3 rfl <| kc 6 rfl <| kc 8 rfl <| kn) rfl ?_
      refine T_seq (T_reg ?_)
      refine R_q _ rfl (v_fieldR (ov rfl) tF24_1) ?_
      refine R_q _ rfl (v_loadS_r (ov rfl) tS22 rfl) ?_
      refine R_q _ rfl (v_move (ov rfl)) ?_
      refine R_q _ rfl (v_sub (ov rfl) (ov rfl) rfl) ?_
      obtain ⟨x2, h_x2, h⟩ := bnd h
      refine R_q _ rfl (v_ixSG (ov rfl) (ov rfl) tL22 h_x2) ?_
      refine R_q _ rfl (v_loadA_r (ov rfl) tA69 rfl rfl) ?_
      refine R_w _ _ rfl (w_alloc (row := [_, _, _]) 1 rfl tZ69 rfl tZ_69) ?_
      refine R_w _ _ rfl (w_store (ov rfl) (ov rfl) (cells_agg tA69 rfl) rfl rfl rfl (Nat.le_of_ble_eq_true rfl) (cell1_all rfl) rfl) ?_
      refine R_nil ?_
      refine T_seq ?_
      refine T_keep (kc 1 rfl <| kc 2 rfl <| kc 6 rfl <| kc 11 rfl <| kn) rfl ?_
      refine T_seq (T_reg ?_)
      refine R_q _ rfl (v_fieldP (ov rfl) rfl rfl tF69_2) ?_
      refine R_q _ rfl (v_loadS (ov rfl) rfl rfl rfl tS3 rfl) ?_
      obtain ⟨y, h_y, h⟩ := bnd h
      refine R_q _ rfl (v_call (ok_ref5_solid h_y) (.cons (ov rfl) (.b rfl) <| .nil)) ?_
      refine R_q _ rfl (v_not (ov rfl)) ?_
      refine R_q _ rfl (v_move (ov rfl)) ?_
      refine R_q _ rfl (.guarded ((!y) == false) rfl rfl rfl rfl fun h => v_move (ov rfl)) ?_
      refine R_q _ rfl (.guarded ((!y) == false) rfl rfl rfl rfl fun h => v_fieldP (ov rfl) rfl rfl tF69_0) ?_
      refine R_q _ rfl (.guarded ((!y) == false) rfl rfl rfl rfl fun h => v_loadS (ow rfl h) rfl rfl rfl tS3 rfl) ?_
      refine R_q _ rfl (.guarded ((!y) == false) rfl rfl rfl rfl fun h => v_sub (ow rfl h) (ow rfl h) rfl) ?_
      refine R_q _ rfl (.guarded ((!y) == false) rfl rfl rfl rfl fun h => v_move (ov rfl)) ?_
      refine R_q _ rfl (.guarded ((!y) == false) rfl rfl rfl rfl fun h => v_gtr (ow rfl h) (ow rfl h)) ?_
      refine R_q _ rfl (v_or (ov rfl) (fun hp => ow rfl (gF hp))) ?_
      refine R_nil ?_
      refine T_keep (kc 6 rfl <| kc 11 rfl <| kc 53 rfl <| kn) rfl ?_
      refine T_if h rfl (fun b53 h => ?_) (fun b53 h => ?_)
      · skip
        refine T_keep (kc 6 rfl <| kn) rfl ?_
        refine T_seq (T_reg ?_)
        refine R_q _ rfl (v_build (ys := [_, _, _]) tPL69 tHA69 tZ69 (.nil) rfl) ?_
        refine R_w _ _ rfl (w_store (ov rfl) (ov rfl) (cells_agg tA69 rfl) rfl rfl rfl (Nat.le_of_ble_eq_true rfl) (cell1_all rfl) rfl) ?_
        refine R_q _ rfl (v_assign (ov rfl)) ?_
        refine R_nil ?_
        obtain rfl := rt (v := ((api_Sample.mk 0 0 0), false)) h
        refine T_ret (retq ?_ (.two (.agg rfl rfl rfl rfl tA69 rfl rfl (pwB rfl)) (.tmp rfl (Dat.view (.b rfl)))))
        rfl
      · skip
        refine T_skip ?_
        refine T_keep (kc 6 rfl <| kc 11 rfl <| kn) rfl ?_
        refine T_seq (T_reg ?_)
        refine R_q _ rfl (v_loadA (ov rfl) rfl rfl rfl tA69 rfl rfl) ?_
        refine R_w _ _ rfl (w_store (ov rfl) (ov rfl) (cells_agg tA69 rfl) rfl rfl rfl (Nat.le_of_ble_eq_true rfl) (cell1_all rfl) rfl) ?_
        refine R_q _ rfl (v_assign (ov rfl)) ?_
        refine R_nil ?_
        obtain rfl := rt (v := (x2, true)) h
        refine T_ret (retq ?_ (.two (.agg rfl rfl rfl rfl tA69 rfl rfl (pwB rfl)) (.tmp rfl (Dat.view (.b rfl)))))
        rfl

theorem ok_ref5_apart {a : Int} {b : Int} {r : Int} (h : ref5_apart a b = some r) :
    CSpec Tryd.prog gl0 52 [.int .i64 a, .int .i64 b] (.int .i64 r) := by
  unfold ref5_apart at h
  replace h := bnd0 h
  refine spec_of (by kernel_rfl) Tryd.func52 rfl rfl ?_
  intro w0 A
  refine T_seq (T_reg ?_)
  refine R_q _ rfl (v_assign (ov rfl)) ?_
  refine R_nil ?_
  refine T_seq (T_reg ?_)
  refine R_q _ rfl (v_move (ov rfl)) ?_
  refine R_q _ rfl (v_move (ov rfl)) ?_
  refine R_q _ rfl (v_sub (ov rfl) (ov rfl) rfl) ?_
  refine R_q _ rfl (v_move (ov rfl)) ?_
  refine R_q _ rfl (v_move (ov rfl)) ?_
  refine R_q _ rfl (v_sub (ov rfl) (ov rfl) rfl) ?_
  refine R_q _ rfl (v_max (ov rfl) (ov rfl) rfl) ?_
  refine R_q _ rfl (v_assign (ov rfl)) ?_
  refine R_nil ?_
  obtain rfl := rt (v := (max (i64 (a - b)) (i64 (b - a)))) h
  refine T_ret (retq ?_ (.one (.tmp rfl (Dat.view (.b rfl)))))
  rfl

theorem ok_ref5_combined {op : Int} {a : Int} {b : Int} {r : Int} (h : ref5_combined op a b = some r) :
    CSpec Tryd.prog gl0 61 [.int .i64 op, .int .i64 a, .int .i64 b] (.int .i64 r) := by
  unfold ref5_combined at h
  replace h := bnd0 h
  refine spec_of (by kernel_rfl) Tryd.func61 rfl rfl ?_
  intro w0 A
  refine T_seq (T_reg ?_)
  refine R_q _ rfl (v_assign (ov rfl)) ?_
  refine R_nil ?_
  refine T_seq ?_
  refine T_keep (kc 0 rfl <| kc 1 rfl <| kc 2 rfl <| kn) rfl ?_
  refine T_seq (T_reg ?_)
  refine R_q _ rfl (v_move (ov rfl)) ?_
  refine R_nil ?_
  refine T_block ?_
  refine T_keep (kc 1 rfl <| kc 2 rfl <| kc 7 rfl <| kn) rfl ?_
  refine T_seq (T_reg ?_)
  refine R_q _ rfl (v_eql (ov rfl) (ov rfl)) ?_
  refine R_q _ rfl (v_assign (ov rfl)) ?_
  refine R_nil ?_
  refine T_keep (kc 1 rfl <| kc 2 rfl <| kc 7 rfl <| kc 8 rfl <| kn) rfl ?_
  refine T_if h rfl (fun b8 h => ?_) (fun b8 h => ?_)
  · skip
    refine T_keep (kc 1 rfl <| kc 2 rfl <| kn) rfl ?_
    refine T_seq (T_reg ?_)
    refine R_q _ rfl (v_move (ov rfl)) ?_
    refine R_q _ rfl (v_move (ov rfl)) ?_
    refine R_q _ rfl (v_add (ov rfl) (ov rfl) rfl) ?_
    refine R_q _ rfl (v_assign (ov rfl)) ?_
    refine R_nil ?_
    obtain rfl := rt (v := (i64 (a + b))) h
    refine T_ret (retq ?_ (.one (.tmp rfl (Dat.view (.b rfl)))))
    rfl
  · skip
    refine T_keep (kc 1 rfl <| kc 2 rfl <| kc 7 rfl <| kn) rfl ?_
    refine T_seq (T_reg ?_)
    refine R_q _ rfl (v_eql (ov rfl) (ov rfl)) ?_
    refine R_q _ rfl (v_assign (ov rfl)) ?_
    refine R_nil ?_
    refine T_keep (kc 1 rfl <| kc 2 rfl <| kc 7 rfl <| kc 13 rfl <| kn) rfl ?_
    refine T_if h rfl (fun b13 h => ?_) (fun b13 h => ?_)
    · skip
      refine T_keep (kc 1 rfl <| kc 2 rfl <| kn) rfl ?_
      refine T_seq (T_reg ?_)
      refine R_q _ rfl (v_move (ov rfl)) ?_
      refine R_q _ rfl (v_move (ov rfl)) ?_
      refine R_q _ rfl (v_sub (ov rfl) (ov rfl) rfl) ?_
      refine R_q _ rfl (v_assign (ov rfl)) ?_
      refine R_nil ?_
      obtain rfl := rt (v := (i64 (a - b))) h
      refine T_ret (retq ?_ (.one (.tmp rfl (Dat.view (.b rfl)))))
      rfl
    · skip
      refine T_keep (kc 1 rfl <| kc 2 rfl <| kc 7 rfl <| kn) rfl ?_
      refine T_seq (T_reg ?_)
      refine R_q _ rfl (v_eql (ov rfl) (ov rfl)) ?_
      refine R_q _ rfl (v_assign (ov rfl)) ?_
      refine R_nil ?_
      refine T_keep (kc 1 rfl <| kc 2 rfl <| kc 7 rfl <| kc 18 rfl <| kn) rfl ?_
      refine T_if h rfl (fun b18 h => ?_) (fun b18 h => ?_)
      · skip
        refine T_keep (kc 1 rfl <| kc 2 rfl <| kn) rfl ?_
        refine T_seq (T_reg ?_)
        refine R_q _ rfl (v_move (ov rfl)) ?_
        refine R_q _ rfl (v_move (ov rfl)) ?_
        refine R_q _ rfl (v_min (ov rfl) (ov rfl) rfl) ?_
        refine R_q _ rfl (v_assign (ov rfl)) ?_
        refine R_nil ?_
        obtain rfl := rt (v := (min a b)) h
        refine T_ret (retq ?_ (.one (.tmp rfl (Dat.view (.b rfl)))))
        rfl
      · skip
        refine T_keep (kc 1 rfl <| kc 2 rfl <| kc 7 rfl <| kn) rfl ?_
        refine T_seq (T_reg ?_)
        refine R_q _ rfl (v_eql (ov rfl) (ov rfl)) ?_
        refine R_q _ rfl (v_assign (ov rfl)) ?_
        refine R_nil ?_
        refine T_keep (kc 1 rfl <| kc 2 rfl <| kc 23 rfl <| kn) rfl ?_
        refine T_if h rfl (fun b23 h => ?_) (fun b23 h => ?_)
        · skip
          refine T_keep (kc 1 rfl <| kc 2 rfl <| kn) rfl ?_
          refine T_seq (T_reg ?_)
          refine R_q _ rfl (v_move (ov rfl)) ?_
          refine R_q _ rfl (v_move (ov rfl)) ?_
          refine R_q _ rfl (v_max (ov rfl) (ov rfl) rfl) ?_
          refine R_q _ rfl (v_assign (ov rfl)) ?_
          refine R_nil ?_
          obtain rfl := rt (v := (max a b)) h
          refine T_ret (retq ?_ (.one (.tmp rfl (Dat.view (.b rfl)))))
          rfl
        · skip
          refine T_skip ?_
          refine T_keep (kc 1 rfl <| kc 2 rfl <| kn) rfl ?_
          refine T_seq (T_reg ?_)
          refine R_q _ rfl (v_move (ov rfl)) ?_
          refine R_q _ rfl (v_move (ov rfl)) ?_
          obtain ⟨y, h_y, h⟩ := bnd h
          refine R_q _ rfl (v_call (ok_ref5_apart h_y) (.cons (ov rfl) (.b rfl) <| .cons (ov rfl) (.b rfl) <| .nil)) ?_
          refine R_q _ rfl (v_assign (ov rfl)) ?_
          refine R_nil ?_
          obtain rfl := rt (v := y) h
          refine T_ret (retq ?_ (.one (.tmp rfl (Dat.view (.b rfl)))))
          rfl

theorem ok_ref5_Combine {a : api_Series} {b : api_Series} {op : Int} {long : Int} {r : api_Series × Int} (h : ref5_Combine a b op long = some r) :
    CSpec Tryd.prog gl0 24 [.agg [.int .i64 a.Den, .sl 69 (List.map R69 a.Samples)], .agg [.int .i64 b.Den, .sl 69 (List.map R69 b.Samples)], .int .i64 op, .int .i64 long] (.tuple [.agg [.int .i64 r.1.Den, .sl 69 (List.map R69 r.1.Samples)], .int .i64 r.2]) := by
  unfold ref5_Combine at h
  replace h := bnd0 h
  refine spec_of (by kernel_rfl) Tryd.func24 rfl rfl ?_
  intro w0 A
  refine T_seq (T_reg ?_)
  refine R_q _ rfl (v_boxD (cva (ov rfl)) rfl tZ_24 rfl) ?_
  refine R_q _ rfl (v_boxD (cva (ov rfl)) rfl tZ_24 rfl) ?_
  refine R_w _ _ rfl (w_alloc (row := [_, _]) 0 rfl tZ24 rfl tZ_24) ?_
  refine R_q _ rfl (v_assign (ov rfl)) ?_
  refine R_nil ?_
  refine T_seq ?_
  refine T_keep (kc 2 rfl <| kc 3 rfl <| kc 4 rfl <| kc 5 rfl <| kc 8 rfl <| kn) rfl ?_
  refine T_seq (T_reg ?_)
  refine R_q _ rfl (v_loadA_r (ov rfl) tA24 rfl rfl) ?_
  refine R_q _ rfl (v_loadA_r (ov rfl) tA24 rfl rfl) ?_
  obtain ⟨y, h_y, h⟩ := bnd h
  refine R_q _ rfl (v_call (ok_ref5_pairFault h_y) (.cons (ov rfl) (.aggB rfl) <| .cons (ov rfl) (.aggB rfl) <| .nil)) ?_
  refine R_q _ rfl (v_assign (ov rfl)) ?_
  refine R_nil ?_
  refine T_keep (kc 2 rfl <| kc 3 rfl <| kc 4 rfl <| kc 5 rfl <| kc 8 rfl <| kc 10 rfl <| kn) rfl ?_
  refine T_seq (T_reg ?_)
  refine R_q _ rfl (v_move (ov rfl)) ?_
  refine R_q _ rfl (v_neq (ov rfl) (ov rfl)) ?_
  refine R_nil ?_
  refine T_keep (kc 2 rfl <| kc 3 rfl <| kc 4 rfl <| kc 5 rfl <| kc 8 rfl <| kc 10 rfl <| kc 21 rfl <| kn) rfl ?_
  refine T_if h rfl (fun b21 h => ?_) (fun b21 h => ?_)
  · skip
    refine T_keep (kc 8 rfl <| kc 10 rfl <| kn) rfl ?_
    refine T_seq (T_reg ?_)
    refine R_q _ rfl (v_build (ys := [_, _]) tPL24 tHA24 tZ24 (.nil) rfl) ?_
    refine R_q _ rfl (v_move (ov rfl)) ?_
    refine R_w _ _ rfl (w_store (ov rfl) (ov rfl) (cells_agg tA24 rfl) rfl rfl rfl (Nat.le_of_ble_eq_true rfl) (cell1_all rfl) rfl) ?_
    refine R_q _ rfl (v_assign (ov rfl)) ?_
    refine R_nil ?_
    obtain rfl := rt (v := ((api_Series.mk 0 []), y)) h
    refine T_ret (retq ?_ (.two (.agg rfl rfl rfl rfl tA24 rfl rfl (.cons (Dat.view (.b rfl)) <| .cons (View.nils 69) <| .nil)) (.tmp rfl (Dat.view (.b rfl)))))
    rfl
  · skip
    refine T_skip ?_
    refine T_seq ?_
    refine T_keep (kc 2 rfl <| kc 3 rfl <| kc 4 rfl <| kc 5 rfl <| kc 8 rfl <| kn) rfl ?_
    refine T_seq (T_reg ?_)
    refine R_q _ rfl (v_move (ov rfl)) ?_
    obtain ⟨y2, h_y2, h⟩ := bnd h
    refine R_q _ rfl (v_call (ok_ref5_outside h_y2) (.cons (ov rfl) (.b rfl) <| .cons (ov rfl) (.b rfl) <| .cons (ov rfl) (.b rfl) <| .nil)) ?_
    refine R_nil ?_
    refine T_keep (kc 2 rfl <| kc 3 rfl <| kc 4 rfl <| kc 5 rfl <| kc 8 rfl <| kc 25 rfl <| kn) rfl ?_
    refine T_if h rfl (fun b25 h => ?_) (fun b25 h => ?_)
    · skip
      refine T_keep (kc 8 rfl <| kn) rfl ?_
      refine T_seq (T_reg ?_)
      refine R_q _ rfl (v_build (ys := [_, _]) tPL24 tHA24 tZ24 (.nil) rfl) ?_
      refine R_w _ _ rfl (w_store (ov rfl) (ov rfl) (cells_agg tA24 rfl) rfl rfl rfl (Nat.le_of_ble_eq_true rfl) (cell1_all rfl) rfl) ?_
      refine R_q _ rfl (v_assign (ov rfl)) ?_
      refine R_nil ?_
      obtain rfl := rt (v := ((api_Series.mk 0 []), 7)) h
      refine T_ret (retq ?_ (.two (.agg rfl rfl rfl rfl tA24 rfl rfl (.cons (Dat.view (.b rfl)) <| .cons (View.nils 69) <| .nil)) (.tmp rfl (Dat.view (.b rfl)))))
      rfl
    · skip
      refine T_skip ?_
      refine T_seq ?_
      refine T_keep (kc 2 rfl <| kc 3 rfl <| kc 4 rfl <| kc 5 rfl <| kc 8 rfl <| kn) rfl ?_
      refine T_seq (T_reg ?_)
      refine R_q _ rfl (v_move (ov rfl)) ?_
      obtain ⟨y3, h_y3, h⟩ := bnd h
      refine R_q _ rfl (v_call (ok_ref5_outside h_y3) (.cons (ov rfl) (.b rfl) <| .cons (ov rfl) (.b rfl) <| .cons (ov rfl) (.b rfl) <| .nil)) ?_
      refine R_nil ?_
      refine T_keep (kc 2 rfl <| kc 3 rfl <| kc 4 rfl <| kc 5 rfl <| kc 8 rfl <| kc 28 rfl <| kn) rfl ?_
      refine T_if h rfl (fun b28 h => ?_) (fun b28 h => ?_)
      · skip
        refine T_keep (kc 8 rfl <| kn) rfl ?_
        refine T_seq (T_reg ?_)
        refine R_q _ rfl (v_build (ys := [_, _]) tPL24 tHA24 tZ24 (.nil) rfl) ?_
        refine R_w _ _ rfl (w_store (ov rfl) (ov rfl) (cells_agg tA24 rfl) rfl rfl rfl (Nat.le_of_ble_eq_true rfl) (cell1_all rfl) rfl) ?_
        refine R_q _ rfl (v_assign (ov rfl)) ?_
        refine R_nil ?_
        obtain rfl := rt (v := ((api_Series.mk 0 []), 9)) h
        refine T_ret (retq ?_ (.two (.agg rfl rfl rfl rfl tA24 rfl rfl (.cons (Dat.view (.b rfl)) <| .cons (View.nils 69) <| .nil)) (.tmp rfl (Dat.view (.b rfl)))))
        rfl
      · skip
        refine T_skip ?_
        refine T_keep (kc 2 rfl <| kc 3 rfl <| kc 4 rfl <| kc 5 rfl <| kc 8 rfl <| kn) rfl ?_
        refine T_seq (T_reg ?_)
        refine R_q _ rfl (v_fieldR (ov rfl) tF24_0) ?_
        refine R_q _ rfl (v_loadS_r (ov rfl) tS3 rfl) ?_
        refine R_q _ rfl (v_build (ys := [_, _]) tPL24 tHA24 tZ24 (.cons (cvs (ov rfl) (cell1_b rfl)) <| .nil) rfl) ?_
        refine R_w _ _ rfl (w_alloc (row := [_, _]) 1 rfl tZ24 rfl tZ_24) ?_
        refine R_w _ _ rfl (w_store (ov rfl) (ov rfl) (cells_agg tA24 rfl) rfl rfl rfl (Nat.le_of_ble_eq_true rfl) (cell1_all rfl) rfl) ?_
        refine R_nil ?_
        refine T_joinG (fun j => (.inr j)) (t1 fun Samples => ⟨[(8, .ptr 0 1 0 0), (11, .ptr 1 1 0 0)], [some ⟨24, [[.int .i64 0, .nils]]⟩, some ⟨24, [[.int .i64 a.Den, .own 2 Samples.length]]⟩, some ⟨69, List.map R69 Samples⟩]⟩) h (fun h => ?_) (fun j h => ?_)
        · skip
          refine T_keep (kc 2 rfl <| kc 3 rfl <| kc 4 rfl <| kc 5 rfl <| kc 8 rfl <| kc 11 rfl <| kn) rfl ?_
          refine T_seq (T_reg ?_)
          refine R_q _ rfl (v_assign (ov rfl)) ?_
          refine R_nil ?_
          refine T_block ?_
          obtain ⟨r1, hl1, ho1⟩ := bndL h
          refine T_loopG _ (t2 fun Samples2 i => ⟨[(2, .int .i64 op), (3, .int .i64 long), (4, .rp [.int .i64 a.Den, .sl 69 (List.map R69 a.Samples)] 0), (5, .rp [.int .i64 b.Den, .sl 69 (List.map R69 b.Samples)] 0), (8, .ptr 0 1 0 0), (11, .ptr 1 1 0 0), (12, .int .i64 i)], [some ⟨24, [[.int .i64 0, .nils]]⟩, some ⟨24, [[.int .i64 a.Den, .own 2 Samples2.length]]⟩, some ⟨69, List.map R69 Samples2⟩]⟩) _ hl1 (Ent.sel [some 0, some 1, none] (sd 2 rfl rfl <| sd 3 rfl rfl <| sd 4 rfl rfl <| sd 5 rfl rfl <| sr 8 rfl (.ptr _ _ _ rfl) <| sr 11 rfl (.ptr _ _ _ rfl) <| sd 12 rfl rfl <| sn) (.cons rfl (ro1 (by exact tZ_24.symm) (rld rfl)) <| .cons rfl (ro1 (by exact tZ_24.symm) (rlc (.dat rfl) <| rlc (.row rfl) <| rln)) <| .row 69 <| .nil) rfl rfl) (fun n1 s1 h => ?_)
          obtain ⟨Samples2, i⟩ := s1
          replace h := t2i h
          refine t2T ?_
          unfold ref5_Combine_L1 at h
          refine T_seq ?_
          refine T_seq (T_reg ?_)
          refine R_q _ rfl (v_move (ov rfl)) ?_
          refine R_q _ rfl (v_fieldR (ov rfl) tF24_1) ?_
          refine R_q _ rfl (v_loadS_r (ov rfl) tS22 rfl) ?_
          refine R_q _ rfl (v_len (slv_sl (ov rfl) tZ_69) tL22 (len_map _ _)) ?_
          refine R_q _ rfl (v_lss (ov rfl) (ov rfl)) ?_
          refine R_nil ?_
          refine T_keep (kc 2 rfl <| kc 3 rfl <| kc 4 rfl <| kc 5 rfl <| kc 8 rfl <| kc 11 rfl <| kc 12 rfl <| kc 37 rfl <| kn) rfl ?_
          refine T_if h rfl (fun b37 h => ?_) (fun b37 h => ?_)
          · skip
            refine T_skip ?_
            refine T_seq ?_
            refine T_block ?_
            refine T_keep (kc 2 rfl <| kc 3 rfl <| kc 4 rfl <| kc 5 rfl <| kc 8 rfl <| kc 11 rfl <| kc 12 rfl <| kn) rfl ?_
            refine T_seq (T_reg ?_)
            refine R_q _ rfl (v_fieldR (ov rfl) tF24_1) ?_
            refine R_q _ rfl (v_loadS_r (ov rfl) tS22 rfl) ?_
            refine R_q _ rfl (v_move (ov rfl)) ?_
            obtain ⟨x, h_x, h⟩ := bnd h
            refine R_q _ rfl (v_ixSG (ov rfl) (ov rfl) tL22 h_x) ?_
            refine R_q _ rfl (v_loadA_r (ov rfl) tA69 rfl rfl) ?_
            refine R_w _ _ rfl (w_alloc (row := [_, _, _]) 3 rfl tZ69 rfl tZ_69) ?_
            refine R_w _ _ rfl (w_store (ov rfl) (ov rfl) (cells_agg tA69 rfl) rfl rfl rfl (Nat.le_of_ble_eq_true rfl) (cell1_all rfl) rfl) ?_
            refine R_nil ?_
            refine T_keep (kc 2 rfl <| kc 3 rfl <| kc 4 rfl <| kc 5 rfl <| kc 8 rfl <| kc 11 rfl <| kc 12 rfl <| kc 13 rfl <| kn) rfl ?_
            refine T_seq (T_reg ?_)
            refine R_q _ rfl (v_loadA_r (ov rfl) tA24 rfl rfl) ?_
            refine R_q _ rfl (v_fieldP (ov rfl) rfl rfl tF69_0) ?_
            refine R_q _ rfl (v_loadS (ov rfl) rfl rfl rfl tS3 rfl) ?_
            refine R_q _ rfl (v_move (ov rfl)) ?_
            obtain ⟨y4, h_y4, h⟩ := bnd h
            refine R_q _ rfl (v_call (ok_ref5_Held h_y4) (.cons (ov rfl) (.aggB rfl) <| .cons (ov rfl) (.b rfl) <| .cons (ov rfl) (.b rfl) <| .nil)) ?_
            refine R_q _ rfl (v_move (ov rfl)) ?_
            refine R_q _ rfl (v_extract (ov rfl) rfl) ?_
            refine R_q _ rfl (v_extract (ov rfl) rfl) ?_
            refine R_w _ _ rfl (w_alloc (row := [_, _, _]) 4 rfl tZ69 rfl tZ_69) ?_
            refine R_w _ _ rfl (w_store (ov rfl) (ov rfl) (cells_agg tA69 rfl) rfl rfl rfl (Nat.le_of_ble_eq_true rfl) (cell1_all rfl) rfl) ?_
            refine R_q _ rfl (v_assign (ov rfl)) ?_
            refine R_nil ?_
            refine T_keep (kc 2 rfl <| kc 3 rfl <| kc 4 rfl <| kc 5 rfl <| kc 8 rfl <| kc 11 rfl <| kc 12 rfl <| kc 13 rfl <| kc 14 rfl <| kc 15 rfl <| kn) rfl ?_
            refine T_seq (T_reg ?_)
            refine R_q _ rfl (v_fieldP (ov rfl) rfl rfl tF69_0) ?_
            refine R_q _ rfl (v_loadS (ov rfl) rfl rfl rfl tS3 rfl) ?_
            refine R_q _ rfl (v_build (ys := [_, _, _]) tPL69 tHA69 tZ69 (.cons (cvs (ov rfl) (cell1_b rfl)) <| .nil) rfl) ?_
            refine R_w _ _ rfl (w_alloc (row := [_, _, _]) 5 rfl tZ69 rfl tZ_69) ?_
            refine R_w _ _ rfl (w_store (ov rfl) (ov rfl) (cells_agg tA69 rfl) rfl rfl rfl (Nat.le_of_ble_eq_true rfl) (cell1_all rfl) rfl) ?_
            refine R_nil ?_
            refine T_joinG id (t1 fun z => ⟨[(2, .int .i64 op), (3, .int .i64 long), (4, .rp [.int .i64 a.Den, .sl 69 (List.map R69 a.Samples)] 0), (5, .rp [.int .i64 b.Den, .sl 69 (List.map R69 b.Samples)] 0), (8, .ptr 0 1 0 0), (11, .ptr 1 1 0 0), (12, .int .i64 i), (16, .ptr 3 1 0 0)], [some ⟨24, [[.int .i64 0, .nils]]⟩, some ⟨24, [[.int .i64 a.Den, .own 2 Samples2.length]]⟩, some ⟨69, List.map R69 Samples2⟩, some ⟨69, [[.int .i64 z.At, .int .i64 z.N, .int .i64 z.Mark]]⟩]⟩) h (fun h => ?_) (fun j h => ?_)
            · skip
              refine T_keep (kc 2 rfl <| kc 3 rfl <| kc 4 rfl <| kc 5 rfl <| kc 8 rfl <| kc 11 rfl <| kc 12 rfl <| kc 13 rfl <| kc 14 rfl <| kc 15 rfl <| kc 16 rfl <| kn) rfl ?_
              refine T_seq (T_reg ?_)
              refine R_q _ rfl (v_fieldP (ov rfl) rfl rfl tF69_2) ?_
              refine R_q _ rfl (v_loadS (ov rfl) rfl rfl rfl tS3 rfl) ?_
              obtain ⟨y5, h_y5, h⟩ := bnd h
              refine R_q _ rfl (v_call (ok_ref5_solid h_y5) (.cons (ov rfl) (.b rfl) <| .nil)) ?_
              refine R_q _ rfl (v_move (ov rfl)) ?_
              refine R_q _ rfl (.guarded (y5 == true) rfl rfl rfl rfl fun h => v_move (ov rfl)) ?_
              refine R_q _ rfl (v_and (ov rfl) (fun hp => ow rfl (gT hp))) ?_
              refine R_nil ?_
              refine T_keep (kc 2 rfl <| kc 3 rfl <| kc 4 rfl <| kc 5 rfl <| kc 8 rfl <| kc 11 rfl <| kc 12 rfl <| kc 13 rfl <| kc 14 rfl <| kc 16 rfl <| kc 61 rfl <| kn) rfl ?_
              refine T_if h rfl (fun b61 h => ?_) (fun b61 h => ?_)
              · skip
                refine T_keep (kc 2 rfl <| kc 3 rfl <| kc 4 rfl <| kc 5 rfl <| kc 8 rfl <| kc 11 rfl <| kc 12 rfl <| kc 13 rfl <| kc 14 rfl <| kc 16 rfl <| kn) rfl ?_
                refine T_draw (cw := ⟨false, true, [some ⟨24, [[.int .i64 0, .nils]]⟩, some ⟨24, [[.int .i64 a.Den, .own 2 Samples2.length]]⟩, some ⟨69, List.map R69 Samples2⟩, some ⟨69, [[.int .i64 x.At, .int .i64 x.N, .int .i64 x.Mark]]⟩, some ⟨69, [[.int .i64 y4.1.At, .int .i64 y4.1.N, .int .i64 y4.1.Mark]]⟩, some ⟨69, [[.int .i64 x.At, .int .i64 0, .int .i64 0]]⟩], [], [5]⟩) (by kernel_rfl) ?_
                refine D_free 0 _ rfl (by kernel_rfl) rfl rfl (fun hp' => v_move (ov rfl)) ?_
                refine D_read 1 _ rfl (by kernel_rfl) rfl rfl rfl (EL.ext (.keep <| .keep <| .keep <| .keep <| .keep <| .wr rfl rfl rfl <| .nil)) (fun hp' hx => v_fieldP (ov rfl) (hx.get rfl rfl) rfl tF69_1) ?_
                refine D_read 2 _ rfl (by kernel_rfl) rfl rfl rfl (EL.ext (.keep <| .keep <| .keep <| .keep <| .keep <| .wr rfl rfl rfl <| .nil)) (fun hp' hx => v_loadS (ov rfl) (hx.get rfl rfl) rfl rfl tS3 rfl) ?_
                refine D_read 3 _ rfl (by kernel_rfl) rfl rfl rfl (EL.ext (.keep <| .keep <| .keep <| .keep <| .keep <| .wr rfl rfl rfl <| .nil)) (fun hp' hx => v_fieldP (ov rfl) (hx.get rfl rfl) rfl tF69_1) ?_
                refine D_read 4 _ rfl (by kernel_rfl) rfl rfl rfl (EL.ext (.keep <| .keep <| .keep <| .keep <| .keep <| .wr rfl rfl rfl <| .nil)) (fun hp' hx => v_loadS (ov rfl) (hx.get rfl rfl) rfl rfl tS3 rfl) ?_
                obtain ⟨y6, h_y6, h⟩ := bnd h
                refine D_read 5 _ rfl (by kernel_rfl) rfl rfl rfl (EL.ext (.keep <| .keep <| .keep <| .keep <| .keep <| .wr rfl rfl rfl <| .nil)) (fun hp' hx => v_call (ok_ref5_combined h_y6) (.cons (ov rfl) (.b rfl) <| .cons (ov rfl) (.b rfl) <| .cons (ov rfl) (.b rfl) <| .nil)) ?_
                refine D_read 6 _ rfl (by kernel_rfl) rfl rfl rfl (EL.ext (.keep <| .keep <| .keep <| .keep <| .keep <| .wr rfl rfl rfl <| .nil)) (fun hp' hx => v_fieldP (ov rfl) (hx.get rfl rfl) rfl tF69_2) ?_
                refine D_read 7 _ rfl (by kernel_rfl) rfl rfl rfl (EL.ext (.keep <| .keep <| .keep <| .keep <| .keep <| .wr rfl rfl rfl <| .nil)) (fun hp' hx => v_loadS (ov rfl) (hx.get rfl rfl) rfl rfl tS3 rfl) ?_
                refine D_read 8 _ rfl (by kernel_rfl) rfl rfl rfl (EL.ext (.keep <| .keep <| .keep <| .keep <| .keep <| .wr rfl rfl rfl <| .nil)) (fun hp' hx => v_fieldP (ov rfl) (hx.get rfl rfl) rfl tF69_2) ?_
                refine D_read 9 _ rfl (by kernel_rfl) rfl rfl rfl (EL.ext (.keep <| .keep <| .keep <| .keep <| .keep <| .wr rfl rfl rfl <| .nil)) (fun hp' hx => v_loadS (ov rfl) (hx.get rfl rfl) rfl rfl tS3 rfl) ?_
                refine D_free 10 _ rfl (by kernel_rfl) rfl rfl (fun hp' => v_min (ov rfl) (ov rfl) rfl) ?_
                refine D_read 11 _ rfl (by kernel_rfl) rfl rfl rfl (EL.ext (.keep <| .keep <| .keep <| .keep <| .keep <| .wr rfl rfl rfl <| .nil)) (fun hp' hx => exW (r := 5) hx rfl fun _ ho hn => v_fieldP (ov rfl) ho hn tF69_1) ?_
                refine D_one 12 _ _ rfl (by kernel_rfl) rfl rfl (fun h => by cases h) (fun _ => by exact EL.ext (.keep <| .keep <| .keep <| .keep <| .keep <| .wr rfl rfl rfl <| .nil)) (w_store (ov rfl) (ov rfl) (cells_scal tS3) rfl rfl rfl (Nat.le_of_ble_eq_true rfl) (cell1_all rfl) rfl) ?_
                refine D_read 13 _ rfl (by kernel_rfl) rfl rfl rfl (EL.ext (.keep <| .keep <| .keep <| .keep <| .keep <| .wr rfl rfl rfl <| .nil)) (fun hp' hx => exW (r := 5) hx rfl fun _ ho hn => v_fieldP (ov rfl) ho hn tF69_2) ?_
                refine D_one 14 _ _ rfl (by kernel_rfl) rfl rfl (fun h => by cases h) (fun _ => by exact EL.ext (.keep <| .keep <| .keep <| .keep <| .keep <| .wr rfl rfl rfl <| .nil)) (w_store (ov rfl) (ov rfl) (cells_scal tS3) rfl rfl rfl (Nat.le_of_ble_eq_true rfl) (cell1_all rfl) rfl) ?_
                refine D_done (by kernel_rfl) ?_
                exact ⟨(api_Sample.mk x.At y6 (min x.Mark y4.1.Mark)), h, Ent.sel [some 0, some 1, some 2, some 5] (sd 2 rfl rfl <| sd 3 rfl rfl <| sd 4 rfl rfl <| sd 5 rfl rfl <| sr 8 rfl (.ptr _ _ _ rfl) <| sr 11 rfl (.ptr _ _ _ rfl) <| sd 12 rfl rfl <| sr 16 rfl (.ptr _ _ _ rfl) <| sn) (.cons rfl (ro1 (by exact tZ_24.symm) (rld rfl)) <| .cons rfl (ro1 (by exact tZ_24.symm) (rlc (.dat rfl) <| rlc (.own _ rfl) <| rln)) <| .cons rfl (roM D69) <| .cons rfl (ro1 (by exact tZ_69.symm) (rld rfl)) <| .nil) rfl rfl⟩
              · skip
                refine T_skip ?_
                exact ⟨(api_Sample.mk x.At 0 0), h, Ent.sel [some 0, some 1, some 2, some 5] (sd 2 rfl rfl <| sd 3 rfl rfl <| sd 4 rfl rfl <| sd 5 rfl rfl <| sr 8 rfl (.ptr _ _ _ rfl) <| sr 11 rfl (.ptr _ _ _ rfl) <| sd 12 rfl rfl <| sr 16 rfl (.ptr _ _ _ rfl) <| sn) (.cons rfl (ro1 (by exact tZ_24.symm) (rld rfl)) <| .cons rfl (ro1 (by exact tZ_24.symm) (rlc (.dat rfl) <| rlc (.own _ rfl) <| rln)) <| .cons rfl (roM D69) <| .cons rfl (ro1 (by exact tZ_69.symm) (rld rfl)) <| .nil) rfl rfl⟩
            · skip
              obtain ⟨z, rfl⟩ : ∃ x, x = j := ⟨_, rfl⟩
              replace h := t1i h
              refine t1T ?_
              refine T_seq ?_
              refine T_seq (T_reg ?_)
              refine R_q _ rfl (v_fieldP (ov rfl) rfl rfl tF69_1) ?_
              refine R_q _ rfl (v_loadS (ov rfl) rfl rfl rfl tS3 rfl) ?_
              obtain ⟨y7, h_y7, h⟩ := bnd h
              refine R_q _ rfl (v_call (ok_ref5_outside h_y7) (.cons (ov rfl) (.b rfl) <| .cons (ov rfl) (.b rfl) <| .cons (ov rfl) (.b rfl) <| .nil)) ?_
              refine R_nil ?_
              refine T_keep (kc 2 rfl <| kc 3 rfl <| kc 4 rfl <| kc 5 rfl <| kc 8 rfl <| kc 11 rfl <| kc 12 rfl <| kc 16 rfl <| kc 77 rfl <| kn) rfl ?_
              refine T_if h rfl (fun b77 h => ?_) (fun b77 h => ?_)
              · skip
                refine T_keep (kc 8 rfl <| kn) rfl ?_
                refine T_seq (T_reg ?_)
                refine R_q _ rfl (v_build (ys := [_, _]) tPL24 tHA24 tZ24 (.nil) rfl) ?_
                refine R_w _ _ rfl (w_store (ov rfl) (ov rfl) (cells_agg tA24 rfl) rfl rfl rfl (Nat.le_of_ble_eq_true rfl) (cell1_all rfl) rfl) ?_
                refine R_q _ rfl (v_assign (ov rfl)) ?_
                refine R_nil ?_
                rw [lx h] at ho1
                replace h := ho1
                obtain rfl := rt (v := ((api_Series.mk 0 []), 9)) h
                refine T_ret (retq ?_ (.two (.agg rfl rfl rfl rfl tA24 rfl rfl (.cons (Dat.view (.b rfl)) <| .cons (View.nils 69) <| .nil)) (.tmp rfl (Dat.view (.b rfl)))))
                rfl
              · skip
                refine T_skip ?_
                refine T_keep (kc 2 rfl <| kc 3 rfl <| kc 4 rfl <| kc 5 rfl <| kc 8 rfl <| kc 11 rfl <| kc 12 rfl <| kc 16 rfl <| kn) rfl ?_
                refine T_reg ?_
                refine R_q _ rfl (v_fieldP (ov rfl) rfl rfl tF24_1) ?_
                refine R_q _ rfl (v_loadS (ov rfl) rfl rfl rfl tS22 rfl) ?_
                refine R_q _ rfl (v_loadA (ov rfl) rfl rfl rfl tA69 rfl rfl) ?_
                refine R_q (.sl 69 (List.map R69 ([z] : List api_Sample))) rfl (v_lit tL22 (.cons (cva (ov rfl)) rfl (pwD rfl) <| .nil) rfl rfl) ?_
                obtain ⟨l, h_l, h⟩ := bnd h
                refine R_w _ _ rfl (w_appendG (ov rfl) (slv_sl (ov rfl) tZ_69) tL22 rfl rfl rfl (fun _ => cell1_all rfl) rfl h_l) ?_
                refine R_q _ rfl (v_fieldP (ov rfl) rfl rfl tF24_1) ?_
                refine R_w _ _ rfl (w_store (ov rfl) (ov rfl) (cells_scal tS22) rfl rfl rfl (Nat.le_of_ble_eq_true rfl) (cell1_all rfl) rfl) ?_
                refine R_nil ?_
                refine T_keep (kc 2 rfl <| kc 3 rfl <| kc 4 rfl <| kc 5 rfl <| kc 8 rfl <| kc 11 rfl <| kc 12 rfl <| kn) rfl ?_
                refine T_reg ?_
                refine R_q _ rfl (v_move (ov rfl)) ?_
                refine R_q _ rfl (v_add (ov rfl) (ov rfl) rfl) ?_
                refine R_q _ rfl (v_assign (ov rfl)) ?_
                refine R_nil ?_
                exact ⟨(l, (i64 (i + 1))), h, Ent.sel [some 0, some 1, some 2] (sd 2 rfl rfl <| sd 3 rfl rfl <| sd 4 rfl rfl <| sd 5 rfl rfl <| sr 8 rfl (.ptr _ _ _ rfl) <| sr 11 rfl (.ptr _ _ _ rfl) <| sd 12 rfl rfl <| sn) (.cons rfl (ro1 (by exact tZ_24.symm) (rld rfl)) <| .cons rfl (ro1 (by exact tZ_24.symm) (rlc (.dat rfl) <| rlc (.own _ rfl) <| rln)) <| .cons rfl (roM D69) <| .nil) rfl rfl⟩
          · skip
            refine T_exit ?_
            rw [lx h] at ho1
            replace h := ho1
            exact ⟨Samples2, h, Ent.sel [some 0, some 1, some 2] (sr 8 rfl (.ptr _ _ _ rfl) <| sr 11 rfl (.ptr _ _ _ rfl) <| sn) (.cons rfl (ro1 (by exact tZ_24.symm) (rld rfl)) <| .cons rfl (ro1 (by exact tZ_24.symm) (rlc (.dat rfl) <| rlc (.own _ rfl) <| rln)) <| .cons rfl (roM D69) <| .nil) rfl rfl⟩
        · skip
          replace h := elr h
          obtain ⟨Samples, rfl⟩ : ∃ x, x = j := ⟨_, rfl⟩
          replace h := t1i h
          refine t1T ?_
          refine T_seq (T_reg ?_)
          refine R_q _ rfl (v_loadA (ov rfl) rfl rfl rfl tA24 rfl rfl) ?_
          refine R_w _ _ rfl (w_store (ov rfl) (ov rfl) (cells_agg tA24 rfl) rfl rfl rfl (Nat.le_of_ble_eq_true rfl) (cell1_all rfl) rfl) ?_
          refine R_q _ rfl (v_assign (ov rfl)) ?_
          refine R_nil ?_
          obtain rfl := rt (v := ((api_Series.mk a.Den Samples), 0)) h
          refine T_ret (retq ?_ (.two (.agg rfl rfl rfl rfl tA24 rfl rfl (.cons (Dat.view (.b rfl)) <| .cons (View.ownM rfl rfl D69) <| .nil)) (.tmp rfl (Dat.view (.b rfl)))))
          rfl

theorem ok_series_solids {s : api_Series} {r : (List Int)} (h : series_solids s = some r) :
    CSpec Tryd.prog gl0 48 [.agg [.int .i64 s.Den, .sl 69 (List.map R69 s.Samples)]] (.sl 3 (List.map R3 r)) := by
  unfold series_solids at h
  replace h := bnd0 h
  refine spec_of (by kernel_rfl) Tryd.func48 rfl rfl ?_
  intro w0 A
  refine T_seq (T_reg ?_)
  refine R_q _ rfl (v_boxD (cva (ov rfl)) rfl tZ_24 rfl) ?_
  refine R_q _ rfl (v_assign (ov rfl)) ?_
  refine R_nil ?_
  refine T_keep (kc 1 rfl <| kn) rfl ?_
  refine T_seq (T_reg ?_)
  refine R_q _ rfl (v_assign (ov rfl)) ?_
  refine R_nil ?_
  refine T_joinG id (t1 fun out => ⟨[(3, .own 0 out.length)], [some ⟨3, List.map R3 out⟩]⟩) h (fun h => ?_) (fun j h => ?_)
  · skip
    refine T_seq (T_reg ?_)
    refine R_q _ rfl (v_fieldR (ov rfl) tF24_1) ?_
    refine R_q _ rfl (v_loadS_r (ov rfl) tS22 rfl) ?_
    refine R_q _ rfl (v_len (slv_sl (ov rfl) tZ_69) tL22 (len_map _ _)) ?_
    refine R_q _ rfl (v_move (ov rfl)) ?_
    refine R_nil ?_
    refine T_block ?_
    obtain ⟨r1, hl1, ho1⟩ := bndL h
    refine T_loopG _ (t2 fun out2 i => ⟨[(3, .own 0 out2.length), (7, .sl 69 (List.map R69 s.Samples)), (8, .int .i64 (s.Samples.length : Int)), (9, .int .i64 i)], [some ⟨3, List.map R3 out2⟩]⟩) _ hl1 (Ent.sel [none] (sr 3 rfl (.row rfl) <| sd 7 rfl rfl <| sd 8 rfl rfl <| sd 9 rfl rfl <| sn) (.row 3 <| .nil) rfl rfl) (fun n1 s1 h => ?_)
    obtain ⟨out2, i⟩ := s1
    replace h := t2i h
    refine t2T ?_
    unfold series_solids_L1 at h
    refine T_seq (T_reg ?_)
    refine R_q _ rfl (v_lss (ov rfl) (ov rfl)) ?_
    refine R_nil ?_
    refine T_seq ?_
    refine T_if h rfl (fun b10 h => ?_) (fun b10 h => ?_)
    · skip
      refine T_skip ?_
      refine T_seq ?_
      refine T_block ?_
      refine T_keep (kc 3 rfl <| kc 7 rfl <| kc 8 rfl <| kc 9 rfl <| kn) rfl ?_
      refine T_seq (T_reg ?_)
      refine R_q _ rfl (v_move (ov rfl)) ?_
      obtain ⟨x, h_x, h⟩ := bnd h
      refine R_q _ rfl (v_ixSG (ov rfl) (ov rfl) tL22 h_x) ?_
      refine R_q _ rfl (v_loadA_r (ov rfl) tA69 rfl rfl) ?_
      refine R_w _ _ rfl (w_alloc (row := [_, _, _]) 1 rfl tZ69 rfl tZ_69) ?_
      refine R_q _ rfl (v_assign (ov rfl)) ?_
      refine R_w _ _ rfl (w_store (ov rfl) (ov rfl) (cells_agg tA69 rfl) rfl rfl rfl (Nat.le_of_ble_eq_true rfl) (cell1_all rfl) rfl) ?_
      refine R_nil ?_
      refine T_keep (kc 3 rfl <| kc 4 rfl <| kc 5 rfl <| kc 7 rfl <| kc 8 rfl <| kc 9 rfl <| kn) rfl ?_
      refine T_seq (T_reg ?_)
      refine R_q _ rfl (v_loadA (ov rfl) rfl rfl rfl tA69 rfl rfl) ?_
      obtain ⟨y, h_y, h⟩ := bnd h
      refine R_q _ rfl (v_call (ok_series_solid h_y) (.cons (ov rfl) (.aggB rfl) <| .nil)) ?_
      refine R_nil ?_
      refine T_keep (kc 3 rfl <| kc 4 rfl <| kc 7 rfl <| kc 8 rfl <| kc 9 rfl <| kc 15 rfl <| kn) rfl ?_
      refine T_if h rfl (fun b15 h => ?_) (fun b15 h => ?_)
      · skip
        refine T_keep (kc 3 rfl <| kc 4 rfl <| kc 7 rfl <| kc 8 rfl <| kc 9 rfl <| kn) rfl ?_
        refine T_reg ?_
        refine R_q _ rfl (v_move (ov rfl)) ?_
        refine R_q _ rfl (v_move (ov rfl)) ?_
        refine R_q (.sl 3 (List.map R3 ([i] : List Int))) rfl (v_lit tL33 (.cons (cvs (ov rfl) (cell1_b rfl)) rfl (.cons (.b rfl) .nil) <| .nil) rfl rfl) ?_
        obtain ⟨l, h_l, h⟩ := bnd h
        refine R_w _ _ rfl (w_appendG (ov rfl) (slv_sl (ov rfl) tZ_3) tL33 rfl rfl rfl (fun _ => cell1_all rfl) rfl h_l) ?_
        refine R_q _ rfl (v_assign (ov rfl)) ?_
        refine R_nil ?_
        refine T_keep (kc 3 rfl <| kc 7 rfl <| kc 8 rfl <| kc 9 rfl <| kn) rfl ?_
        refine T_reg ?_
        refine R_q _ rfl (v_add (ov rfl) (ov rfl) rfl) ?_
        refine R_q _ rfl (v_move (ov rfl)) ?_
        refine R_nil ?_
        exact ⟨(l, (i64 (i + 1))), h, Ent.sel [some 0] (sr 3 rfl (.own _ rfl) <| sd 7 rfl rfl <| sd 8 rfl rfl <| sd 9 rfl rfl <| sn) (.cons rfl (roM D3) <| .nil) rfl rfl⟩
      · skip
        refine T_skip ?_
        refine T_keep (kc 3 rfl <| kc 7 rfl <| kc 8 rfl <| kc 9 rfl <| kn) rfl ?_
        refine T_reg ?_
        refine R_q _ rfl (v_add (ov rfl) (ov rfl) rfl) ?_
        refine R_q _ rfl (v_move (ov rfl)) ?_
        refine R_nil ?_
        exact ⟨(out2, (i64 (i + 1))), h, Ent.sel [some 0] (sr 3 rfl (.own _ rfl) <| sd 7 rfl rfl <| sd 8 rfl rfl <| sd 9 rfl rfl <| sn) (.cons rfl (roM D3) <| .nil) rfl rfl⟩
    · skip
      refine T_exit ?_
      rw [lx h] at ho1
      replace h := ho1
      exact ⟨out2, h, Ent.sel [some 0] (sr 3 rfl (.own _ rfl) <| sn) (.cons rfl (roM D3) <| .nil) rfl rfl⟩
  · skip
    obtain ⟨out, rfl⟩ : ∃ x, x = j := ⟨_, rfl⟩
    replace h := t1i h
    refine t1T ?_
    refine T_seq (T_reg ?_)
    refine R_q _ rfl (v_move (ov rfl)) ?_
    refine R_q _ rfl (v_assign (ov rfl)) ?_
    refine R_nil ?_
    obtain rfl := rt (v := out) h
    refine T_ret (retq ?_ (.one (.tmp rfl (View.ownM rfl rfl D3))))
    rfl

theorem ok_bits_Mul64 {x : Int} {y : Int} {r : Int × Int} (h : bits_Mul64 x y = some r) :
    CSpec Tryd.prog gl0 86 [.int .u64 x, .int .u64 y] (.tuple [.int .u64 r.1, .int .u64 r.2]) := by
  unfold bits_Mul64 at h
  replace h := bnd0 h
  refine spec_of (by kernel_rfl) Tryd.func86 rfl rfl ?_
  intro w0 A
  refine T_seq (T_reg ?_)
  refine R_q _ rfl (v_assign (ov rfl)) ?_
  refine R_q _ rfl (v_assign (ov rfl)) ?_
  refine R_nil ?_
  refine T_keep (kc 0 rfl <| kc 1 rfl <| kn) rfl ?_
  refine T_seq (T_reg ?_)
  refine R_q _ rfl (v_move (ov rfl)) ?_
  refine R_q _ rfl (v_and_ (ov rfl) (ov rfl)) ?_
  refine R_q _ rfl (v_assign (ov rfl)) ?_
  refine R_nil ?_
  refine T_keep (kc 0 rfl <| kc 1 rfl <| kc 6 rfl <| kn) rfl ?_
  refine T_seq (T_reg ?_)
  refine R_q _ rfl (v_move (ov rfl)) ?_
  obtain ⟨q, h_q, h⟩ := bnd h
  refine R_q _ rfl (v_shrG (ov rfl) (ov rfl) h_q) ?_
  refine R_q _ rfl (v_assign (ov rfl)) ?_
  refine R_nil ?_
  refine T_keep (kc 0 rfl <| kc 1 rfl <| kc 6 rfl <| kc 7 rfl <| kn) rfl ?_
  refine T_seq (T_reg ?_)
  refine R_q _ rfl (v_move (ov rfl)) ?_
  refine R_q _ rfl (v_and_ (ov rfl) (ov rfl)) ?_
  refine R_q _ rfl (v_assign (ov rfl)) ?_
  refine R_nil ?_
  refine T_keep (kc 0 rfl <| kc 1 rfl <| kc 6 rfl <| kc 7 rfl <| kc 8 rfl <| kn) rfl ?_
  refine T_seq (T_reg ?_)
  refine R_q _ rfl (v_move (ov rfl)) ?_
  obtain ⟨q2, h_q2, h⟩ := bnd h
  refine R_q _ rfl (v_shrG (ov rfl) (ov rfl) h_q2) ?_
  refine R_q _ rfl (v_assign (ov rfl)) ?_
  refine R_nil ?_
  refine T_keep (kc 0 rfl <| kc 1 rfl <| kc 6 rfl <| kc 7 rfl <| kc 8 rfl <| kc 9 rfl <| kn) rfl ?_
  refine T_seq (T_reg ?_)
  refine R_q _ rfl (v_move (ov rfl)) ?_
  refine R_q _ rfl (v_move (ov rfl)) ?_
  refine R_q _ rfl (v_mul (ov rfl) (ov rfl) rfl) ?_
  refine R_q _ rfl (v_assign (ov rfl)) ?_
  refine R_nil ?_
  refine T_keep (kc 0 rfl <| kc 1 rfl <| kc 6 rfl <| kc 7 rfl <| kc 8 rfl <| kc 9 rfl <| kc 10 rfl <| kn) rfl ?_
  refine T_seq (T_reg ?_)
  refine R_q _ rfl (v_move (ov rfl)) ?_
  refine R_q _ rfl (v_move (ov rfl)) ?_
  refine R_q _ rfl (v_mul (ov rfl) (ov rfl) rfl) ?_
  refine R_q _ rfl (v_move (ov rfl)) ?_
  obtain ⟨q3, h_q3, h⟩ := bnd h
  refine R_q _ rfl (v_shrG (ov rfl) (ov rfl) h_q3) ?_
  refine R_q _ rfl (v_add (ov rfl) (ov rfl) rfl) ?_
  refine R_q _ rfl (v_assign (ov rfl)) ?_
  refine R_nil ?_
  refine T_keep (kc 0 rfl <| kc 1 rfl <| kc 6 rfl <| kc 7 rfl <| kc 9 rfl <| kc 11 rfl <| kn) rfl ?_
  refine T_seq (T_reg ?_)
  refine R_q _ rfl (v_move (ov rfl)) ?_
  refine R_q _ rfl (v_and_ (ov rfl) (ov rfl)) ?_
  refine R_q _ rfl (v_assign (ov rfl)) ?_
  refine R_nil ?_
  refine T_keep (kc 0 rfl <| kc 1 rfl <| kc 6 rfl <| kc 7 rfl <| kc 9 rfl <| kc 11 rfl <| kc 12 rfl <| kn) rfl ?_
  refine T_seq (T_reg ?_)
  refine R_q _ rfl (v_move (ov rfl)) ?_
  obtain ⟨q4, h_q4, h⟩ := bnd h
  refine R_q _ rfl (v_shrG (ov rfl) (ov rfl) h_q4) ?_
  refine R_q _ rfl (v_assign (ov rfl)) ?_
  refine R_nil ?_
  refine T_keep (kc 0 rfl <| kc 1 rfl <| kc 6 rfl <| kc 7 rfl <| kc 9 rfl <| kc 12 rfl <| kc 13 rfl <| kn) rfl ?_
  refine T_seq (T_reg ?_)
  refine R_q _ rfl (v_move (ov rfl)) ?_
  refine R_q _ rfl (v_move (ov rfl)) ?_
  refine R_q _ rfl (v_move (ov rfl)) ?_
  refine R_q _ rfl (v_mul (ov rfl) (ov rfl) rfl) ?_
  refine R_q _ rfl (v_add (ov rfl) (ov rfl) rfl) ?_
  refine R_q _ rfl (v_assign (ov rfl)) ?_
  refine R_nil ?_
  refine T_keep (kc 0 rfl <| kc 1 rfl <| kc 7 rfl <| kc 9 rfl <| kc 12 rfl <| kc 13 rfl <| kn) rfl ?_
  refine T_seq (T_reg ?_)
  refine R_q _ rfl (v_move (ov rfl)) ?_
  refine R_q _ rfl (v_move (ov rfl)) ?_
  refine R_q _ rfl (v_mul (ov rfl) (ov rfl) rfl) ?_
  refine R_q _ rfl (v_move (ov rfl)) ?_
  refine R_q _ rfl (v_add (ov rfl) (ov rfl) rfl) ?_
  refine R_q _ rfl (v_move (ov rfl)) ?_
  obtain ⟨q5, h_q5, h⟩ := bnd h
  refine R_q _ rfl (v_shrG (ov rfl) (ov rfl) h_q5) ?_
  refine R_q _ rfl (v_add (ov rfl) (ov rfl) rfl) ?_
  refine R_q _ rfl (v_assign (ov rfl)) ?_
  refine R_nil ?_
  refine T_keep (kc 0 rfl <| kc 1 rfl <| kc 4 rfl <| kn) rfl ?_
  refine T_seq (T_reg ?_)
  refine R_q _ rfl (v_move (ov rfl)) ?_
  refine R_q _ rfl (v_move (ov rfl)) ?_
  refine R_q _ rfl (v_mul (ov rfl) (ov rfl) rfl) ?_
  refine R_q _ rfl (v_assign (ov rfl)) ?_
  refine R_nil ?_
  obtain rfl := rt (v := ((u64 ((u64 ((u64 (q * q2)) + q4)) + q5)), (u64 (x * y)))) h
  refine T_ret (retq ?_ (.two (.tmp rfl (Dat.view (.b rfl))) (.tmp rfl (Dat.view (.b rfl)))))
  rfl

theorem ok_bits_Add64 {x y z : Int} {r : Int × Int} (h : bits_Add64 x y z = some r) :
    ESpec Tryd.prog 87 [.int .u64 x, .int .u64 y, .int .u64 z] (.tuple [.int .u64 r.1, .int .u64 r.2]) :=
  ok_add64 Tryd.func87 (by kernel_rfl) (by kernel_rfl) (by kernel_rfl) (by kernel_rfl) h

theorem ok_series_wide_addProduct_w {w : series_wide} {a : Int} {b : Int} {r : series_wide} (h : series_wide_addProduct w a b = some r) :
    GSpec Tryd.prog gl0 76 [.ptr 0 1 0 0, .int .i64 a, .int .i64 b] [some ⟨103, [[.int .u64 w.high, .int .u64 w.low]]⟩] (.tuple []) [some ⟨103, [[.int .u64 r.high, .int .u64 r.low]]⟩] := by
  unfold series_wide_addProduct at h
  replace h := bnd0 h
  refine gspec_of (by kernel_rfl) Tryd.func76 rfl rfl ?_
  intro w0 A W φ0
  refine T_seq (T_reg ?_)
  refine R_q _ rfl (v_move (ov rfl)) ?_
  refine R_q _ rfl (v_conv (ov rfl) tI3 tI101 rfl) ?_
  refine R_q _ rfl (v_move (ov rfl)) ?_
  refine R_q _ rfl (v_conv (ov rfl) tI3 tI101 rfl) ?_
  obtain ⟨y, h_y, h⟩ := bnd h
  refine R_q _ rfl (v_call (ok_bits_Mul64 h_y) (.cons (ov rfl) (.b rfl) <| .cons (ov rfl) (.b rfl) <| .nil)) ?_
  refine R_q _ rfl (v_move (ov rfl)) ?_
  refine R_q _ rfl (v_extract (ov rfl) rfl) ?_
  refine R_q _ rfl (v_extract (ov rfl) rfl) ?_
  refine R_q _ rfl (v_assign (ov rfl)) ?_
  refine R_q _ rfl (v_assign (ov rfl)) ?_
  refine R_nil ?_
  refine T_keep (kc 0 rfl <| kc 6 rfl <| kc 7 rfl <| kn) rfl ?_
  refine T_seq (T_reg ?_)
  refine R_q _ rfl (v_assign (ov rfl)) ?_
  refine R_nil ?_
  refine T_seq (T_reg ?_)
  refine R_q _ rfl (v_move (ov rfl)) ?_
  refine R_q _ rfl (v_move (ov rfl)) ?_
  refine R_q _ rfl (v_nilCheckP (ov rfl) rfl rfl) ?_
  refine R_q _ rfl (v_fieldP (ov rfl) rfl rfl tF103_1) ?_
  refine R_q _ rfl (v_loadS (ov rfl) rfl rfl rfl tS101 rfl) ?_
  refine R_q _ rfl (v_move (ov rfl)) ?_
  obtain ⟨y2, h_y2, h⟩ := bnd h
  refine R_q _ rfl (v_callE (ok_bits_Add64 h_y2) (.cons (ov rfl) (.b rfl) <| .cons (ov rfl) (.b rfl) <| .cons (ov rfl) (.b rfl) <| .nil)) ?_
  refine R_q _ rfl (v_move (ov rfl)) ?_
  refine R_q _ rfl (v_extract (ov rfl) rfl) ?_
  refine R_q _ rfl (v_extract (ov rfl) rfl) ?_
  refine R_q _ rfl (v_nilCheckP (ov rfl) rfl rfl) ?_
  refine R_q _ rfl (v_fieldP (ov rfl) rfl rfl tF103_1) ?_
  refine R_w _ _ rfl (w_store (ov rfl) (ov rfl) (cells_scal tS101) rfl rfl rfl (Nat.le_of_ble_eq_true rfl) (cell1_all rfl) rfl) ?_
  refine R_q _ rfl (v_assign (ov rfl)) ?_
  refine R_nil ?_
  refine T_keep (kc 0 rfl <| kc 6 rfl <| kc 8 rfl <| kn) rfl ?_
  refine T_reg ?_
  refine R_q _ rfl (v_move (ov rfl)) ?_
  refine R_q _ rfl (v_nilCheckP (ov rfl) rfl rfl) ?_
  refine R_q _ rfl (v_fieldP (ov rfl) rfl rfl tF103_0) ?_
  refine R_q _ rfl (v_loadS (ov rfl) rfl rfl rfl tS101 rfl) ?_
  refine R_q _ rfl (v_move (ov rfl)) ?_
  refine R_q _ rfl (v_move (ov rfl)) ?_
  refine R_q _ rfl (v_add (ov rfl) (ov rfl) rfl) ?_
  refine R_q _ rfl (v_add (ov rfl) (ov rfl) rfl) ?_
  refine R_q _ rfl (v_nilCheckP (ov rfl) rfl rfl) ?_
  refine R_q _ rfl (v_fieldP (ov rfl) rfl rfl tF103_0) ?_
  refine R_w _ _ rfl (w_store (ov rfl) (ov rfl) (cells_scal tS101) rfl rfl rfl (Nat.le_of_ble_eq_true rfl) (cell1_all rfl) rfl) ?_
  refine R_nil ?_
  obtain rfl := rt (v := (series_wide.mk (u64 (w.high + (u64 (y.1 + y2.2)))) y2.1)) h
  exact retgn [some 0] rfl (.nil) (.cons rfl (ro1 (by exact tZ_103.symm) (rld rfl)) <| .nil) rfl rfl (rTup (rln))

theorem ok_series_wide_less {w : series_wide} {x : series_wide} {r : Bool} (h : series_wide_less w x = some r) :
    CSpec Tryd.prog gl0 77 [.agg [.int .u64 w.high, .int .u64 w.low], .agg [.int .u64 x.high, .int .u64 x.low]] (.bool r) := by
  unfold series_wide_less at h
  replace h := bnd0 h
  refine spec_of (by kernel_rfl) Tryd.func77 rfl rfl ?_
  intro w0 A
  refine T_seq (T_reg ?_)
  refine R_q _ rfl (v_boxD (cva (ov rfl)) rfl tZ_103 rfl) ?_
  refine R_q _ rfl (v_boxD (cva (ov rfl)) rfl tZ_103 rfl) ?_
  refine R_q _ rfl (v_assign (ov rfl)) ?_
  refine R_nil ?_
  refine T_keep (kc 2 rfl <| kc 3 rfl <| kc 4 rfl <| kn) rfl ?_
  refine T_seq (T_reg ?_)
  refine R_q _ rfl (v_fieldR (ov rfl) tF103_0) ?_
  refine R_q _ rfl (v_loadS_r (ov rfl) tS101 rfl) ?_
  refine R_q _ rfl (v_fieldR (ov rfl) tF103_0) ?_
  refine R_q _ rfl (v_loadS_r (ov rfl) tS101 rfl) ?_
  refine R_q _ rfl (v_lss (ov rfl) (ov rfl)) ?_
  refine R_q _ rfl (v_move (ov rfl)) ?_
  refine R_q _ rfl (.guarded ((decide (w.high < x.high)) == false) rfl rfl rfl rfl fun h => v_fieldR (ov rfl) tF103_0) ?_
  refine R_q _ rfl (.guarded ((decide (w.high < x.high)) == false) rfl rfl rfl rfl fun h => v_loadS_r (ow rfl h) tS101 rfl) ?_
  refine R_q _ rfl (.guarded ((decide (w.high < x.high)) == false) rfl rfl rfl rfl fun h => v_fieldR (ov rfl) tF103_0) ?_
  refine R_q _ rfl (.guarded ((decide (w.high < x.high)) == false) rfl rfl rfl rfl fun h => v_loadS_r (ow rfl h) tS101 rfl) ?_
  refine R_q _ rfl (.guarded ((decide (w.high < x.high)) == false) rfl rfl rfl rfl fun h => v_eql (ow rfl h) (ow rfl h)) ?_
  refine R_q _ rfl (.guarded ((decide (w.high < x.high)) == false) rfl rfl rfl rfl fun h => v_move (ow rfl h)) ?_
  refine R_q _ rfl (.guarded2 (((decide (w.high < x.high)) == false) && ((decide (w.high = x.high)) == true)) rfl rfl rfl rfl fun h => v_fieldR (ov rfl) tF103_1) ?_
  refine R_q _ rfl (.guarded2 (((decide (w.high < x.high)) == false) && ((decide (w.high = x.high)) == true)) rfl rfl rfl rfl fun h => v_loadS_r (ow rfl h) tS101 rfl) ?_
  refine R_q _ rfl (.guarded2 (((decide (w.high < x.high)) == false) && ((decide (w.high = x.high)) == true)) rfl rfl rfl rfl fun h => v_fieldR (ov rfl) tF103_1) ?_
  refine R_q _ rfl (.guarded2 (((decide (w.high < x.high)) == false) && ((decide (w.high = x.high)) == true)) rfl rfl rfl rfl fun h => v_loadS_r (ow rfl h) tS101 rfl) ?_
  refine R_q _ rfl (.guarded2 (((decide (w.high < x.high)) == false) && ((decide (w.high = x.high)) == true)) rfl rfl rfl rfl fun h => v_lss (ow rfl h) (ow rfl h)) ?_
  refine R_q _ rfl (.guarded ((decide (w.high < x.high)) == false) rfl rfl rfl rfl fun h => v_and (ow rfl h) (fun hp => ow rfl (gA h (gT hp)))) ?_
  refine R_q _ rfl (v_or (ov rfl) (fun hp => ow rfl (gF hp))) ?_
  refine R_q _ rfl (v_assign (ov rfl)) ?_
  refine R_nil ?_
  obtain rfl := rt (v := ((decide (w.high < x.high)) || ((decide (w.high = x.high)) && (decide (w.low < x.low))))) h
  refine T_ret (retq ?_ (.one (.tmp rfl (Dat.view (.b rfl)))))
  rfl

theorem ok_series_steeper {a : Int} {b : Int} {c_ : Int} {d : Int} {r : Bool} (h : series_steeper a b c_ d = some r) :
    CSpec Tryd.prog gl0 62 [.int .i64 a, .int .i64 b, .int .i64 c_, .int .i64 d] (.bool r) := by
  unfold series_steeper at h
  replace h := bnd0 h
  refine spec_of (by kernel_rfl) Tryd.func62 rfl rfl ?_
  intro w0 A
  refine T_seq (T_reg ?_)
  refine R_q _ rfl (v_assign (ov rfl)) ?_
  refine R_nil ?_
  refine T_keep (kc 0 rfl <| kc 1 rfl <| kc 2 rfl <| kc 3 rfl <| kn) rfl ?_
  refine T_seq (T_reg ?_)
  refine R_w _ _ rfl (w_alloc (row := [_, _]) 0 rfl tZ103 rfl tZ_103) ?_
  refine R_w _ _ rfl (w_alloc (row := [_, _]) 1 rfl tZ103 rfl tZ_103) ?_
  refine R_nil ?_
  refine T_seq (T_reg ?_)
  refine R_q _ rfl (v_move (ov rfl)) ?_
  refine R_q _ rfl (v_move (ov rfl)) ?_
  obtain ⟨y, h_y, h⟩ := bnd h
  refine R_w _ _ rfl (w_callG [0] (ok_series_wide_addProduct_w h_y) (.cons (ov rfl) (.ptr _ _ _ rfl) <| .cons (ov rfl) (.dat rfl) <| .cons (ov rfl) (.dat rfl) <| .nil) (.cons rfl (ro1 (by exact tZ_103.symm) (rld rfl)) <| .nil) rfl (.lent 0 (.inl rfl) rfl (ro1 (by exact tZ_103.symm) (rld rfl)) <| .keep rfl rfl <| .nil) rfl rfl (rTup (rld rfl))) ?_
  refine R_nil ?_
  refine T_keep (kc 1 rfl <| kc 2 rfl <| kc 9 rfl <| kc 10 rfl <| kn) rfl ?_
  refine T_seq (T_reg ?_)
  refine R_q _ rfl (v_move (ov rfl)) ?_
  refine R_q _ rfl (v_move (ov rfl)) ?_
  obtain ⟨y2, h_y2, h⟩ := bnd h
  refine R_w _ _ rfl (w_callG [1] (ok_series_wide_addProduct_w h_y2) (.cons (ov rfl) (.ptr _ _ _ rfl) <| .cons (ov rfl) (.dat rfl) <| .cons (ov rfl) (.dat rfl) <| .nil) (.cons rfl (ro1 (by exact tZ_103.symm) (rld rfl)) <| .nil) rfl (.keep rfl rfl <| .lent 0 (.inl rfl) rfl (ro1 (by exact tZ_103.symm) (rld rfl)) <| .nil) rfl rfl (rTup (rld rfl))) ?_
  refine R_nil ?_
  refine T_keep (kc 9 rfl <| kc 10 rfl <| kn) rfl ?_
  refine T_seq (T_reg ?_)
  refine R_q _ rfl (v_loadA (ov rfl) rfl rfl rfl tA103 rfl rfl) ?_
  refine R_q _ rfl (v_loadA (ov rfl) rfl rfl rfl tA103 rfl rfl) ?_
  obtain ⟨y3, h_y3, h⟩ := bnd h
  refine R_q _ rfl (v_call (ok_series_wide_less h_y3) (.cons (ov rfl) (.aggB rfl) <| .cons (ov rfl) (.aggB rfl) <| .nil)) ?_
  refine R_q _ rfl (v_assign (ov rfl)) ?_
  refine R_nil ?_
  obtain rfl := rt (v := y3) h
  refine T_ret (retq ?_ (.one (.tmp rfl (Dat.view (.b rfl)))))
  rfl

theorem ok_series_divisor {a : Int} {b : Int} {r : Int} (h : series_divisor a b = some r) :
    CSpec Tryd.prog gl0 78 [.int .i64 a, .int .i64 b] (.int .i64 r) := by
  unfold series_divisor at h
  replace h := bnd0 h
  refine spec_of (by kernel_rfl) Tryd.func78 rfl rfl ?_
  intro w0 A
  refine T_seq (T_reg ?_)
  refine R_q _ rfl (v_assign (ov rfl)) ?_
  refine R_nil ?_
  refine T_keep (kc 0 rfl <| kc 1 rfl <| kn) rfl ?_
  refine T_seq (T_reg ?_)
  refine R_q _ rfl (v_move (ov rfl)) ?_
  obtain ⟨y, h_y, h⟩ := bnd h
  refine R_q _ rfl (v_call (ok_series_size h_y) (.cons (ov rfl) (.b rfl) <| .nil)) ?_
  refine R_q _ rfl (v_move (ov rfl)) ?_
  obtain ⟨y2, h_y2, h⟩ := bnd h
  refine R_q _ rfl (v_call (ok_series_size h_y2) (.cons (ov rfl) (.b rfl) <| .nil)) ?_
  refine R_q _ rfl (v_assign (ov rfl)) ?_
  refine R_q _ rfl (v_assign (ov rfl)) ?_
  refine R_nil ?_
  refine T_joinG id (t1 fun a2 => ⟨[(0, .int .i64 a2)], []⟩) h (fun h => ?_) (fun j h => ?_)
  · skip
    refine T_block ?_
    obtain ⟨r1, hl1, ho1⟩ := bndL h
    refine T_loopG _ (t2 fun a3 b2 => ⟨[(0, .int .i64 a3), (1, .int .i64 b2)], []⟩) _ hl1 (Ent.sel [] (sd 0 rfl rfl <| sd 1 rfl rfl <| sn) (.nil) rfl rfl) (fun n1 s1 h => ?_)
    obtain ⟨a3, b2⟩ := s1
    replace h := t2i h
    refine t2T ?_
    unfold series_divisor_L1 at h
    refine T_seq ?_
    refine T_seq (T_reg ?_)
    refine R_q _ rfl (v_move (ov rfl)) ?_
    refine R_q _ rfl (v_neq (ov rfl) (ov rfl)) ?_
    refine R_nil ?_
    refine T_keep (kc 0 rfl <| kc 1 rfl <| kc 10 rfl <| kn) rfl ?_
    refine T_if h rfl (fun b10 h => ?_) (fun b10 h => ?_)
    · skip
      refine T_skip ?_
      refine T_block ?_
      refine T_keep (kc 0 rfl <| kc 1 rfl <| kn) rfl ?_
      refine T_draw (cw := md0) (by kernel_rfl) ?_
      refine D_free 0 _ rfl (by kernel_rfl) rfl rfl (fun hp' => v_move (ov rfl)) ?_
      refine D_free 1 _ rfl (by kernel_rfl) rfl rfl (fun hp' => v_move (ov rfl)) ?_
      refine D_free 2 _ rfl (by kernel_rfl) rfl rfl (fun hp' => v_move (ov rfl)) ?_
      obtain ⟨q, h_q, h⟩ := bnd h
      refine D_free 3 _ rfl (by kernel_rfl) rfl rfl (fun hp' => v_remG (ov rfl) (ov rfl) h_q) ?_
      refine D_free 4 _ rfl (by kernel_rfl) rfl rfl (fun hp' => v_assign (ov rfl)) ?_
      refine D_free 5 _ rfl (by kernel_rfl) rfl rfl (fun hp' => v_assign (ov rfl)) ?_
      refine D_done (by kernel_rfl) ?_
      exact ⟨(b2, q), h, Ent.sel [] (sd 0 rfl rfl <| sd 1 rfl rfl <| sn) (.nil) rfl rfl⟩
    · skip
      refine T_exit ?_
      rw [lx h] at ho1
      replace h := ho1
      exact ⟨a3, h, Ent.sel [] (sd 0 rfl rfl <| sn) (.nil) rfl rfl⟩
  · skip
    obtain ⟨a2, rfl⟩ : ∃ x, x = j := ⟨_, rfl⟩
    replace h := t1i h
    refine t1T ?_
    refine T_seq (T_reg ?_)
    refine R_q _ rfl (v_move (ov rfl)) ?_
    refine R_q _ rfl (v_assign (ov rfl)) ?_
    refine R_nil ?_
    obtain rfl := rt (v := a2) h
    refine T_ret (retq ?_ (.one (.tmp rfl (Dat.view (.b rfl)))))
    rfl

theorem ok_series_ratio {num : Int} {den : Int} {r : api_Ratio} (h : series_ratio num den = some r) :
    CSpec Tryd.prog gl0 63 [.int .i64 num, .int .i64 den] (.agg [.int .i64 r.Num, .int .i64 r.Den]) := by
  unfold series_ratio at h
  replace h := bnd0 h
  refine spec_of (by kernel_rfl) Tryd.func63 rfl rfl ?_
  intro w0 A
  refine T_seq (T_reg ?_)
  refine R_w _ _ rfl (w_alloc (row := [_, _]) 0 rfl tZ46 rfl tZ_46) ?_
  refine R_nil ?_
  refine T_seq (T_reg ?_)
  refine R_q _ rfl (v_move (ov rfl)) ?_
  refine R_q _ rfl (v_move (ov rfl)) ?_
  obtain ⟨y, h_y, h⟩ := bnd h
  refine R_q _ rfl (v_call (ok_series_divisor h_y) (.cons (ov rfl) (.b rfl) <| .cons (ov rfl) (.b rfl) <| .nil)) ?_
  refine R_q _ rfl (v_assign (ov rfl)) ?_
  refine R_nil ?_
  refine T_keep (kc 0 rfl <| kc 1 rfl <| kc 4 rfl <| kc 5 rfl <| kn) rfl ?_
  refine T_seq (T_draw (cw := md0) (by kernel_rfl) ?_)
  refine D_free 0 _ rfl (by kernel_rfl) rfl rfl (fun hp' => v_move (ov rfl)) ?_
  refine D_free 1 _ rfl (by kernel_rfl) rfl rfl (fun hp' => v_move (ov rfl)) ?_
  obtain ⟨q, h_q, h⟩ := bnd h
  refine D_free 2 _ rfl (by kernel_rfl) rfl rfl (fun hp' => v_quoG (ov rfl) (ov rfl) h_q) ?_
  refine D_free 3 _ rfl (by kernel_rfl) rfl rfl (fun hp' => v_move (ov rfl)) ?_
  refine D_free 4 _ rfl (by kernel_rfl) rfl rfl (fun hp' => v_move (ov rfl)) ?_
  obtain ⟨q2, h_q2, h⟩ := bnd h
  refine D_free 5 _ rfl (by kernel_rfl) rfl rfl (fun hp' => v_quoG (ov rfl) (ov rfl) h_q2) ?_
  refine D_free 6 _ rfl (by kernel_rfl) rfl rfl (fun hp' => v_build (ys := [_, _]) tPL46 tHA46 tZ46 (.cons (cvs (ov rfl) (cell1_b rfl)) <| .cons (cvs (ov rfl) (cell1_b rfl)) <| .nil) rfl) ?_
  refine D_one 7 _ _ rfl (by kernel_rfl) rfl rfl (fun h => by cases h) (fun h => by cases h) (w_store (ov rfl) (ov rfl) (cells_agg tA46 rfl) rfl rfl rfl (Nat.le_of_ble_eq_true rfl) (cell1_all rfl) rfl) ?_
  refine D_done (by kernel_rfl) ?_
  obtain rfl := rt (v := (api_Ratio.mk q q2)) h
  refine T_ret (retq ?_ (.one (.agg rfl rfl rfl rfl tA46 rfl rfl (pwB rfl))))
  rfl

theorem ok_series_Steepest {s : api_Series} {long : Int} {r : api_Ratio × Int × Int} (h : series_Steepest s long = some r) :
    CSpec Tryd.prog gl0 25 [.agg [.int .i64 s.Den, .sl 69 (List.map R69 s.Samples)], .int .i64 long] (.tuple [.agg [.int .i64 r.1.Num, .int .i64 r.1.Den], .int .i64 r.2.1, .int .i64 r.2.2]) := by
  unfold series_Steepest at h
  replace h := bnd0 h
  refine spec_of (by kernel_rfl) Tryd.func25 rfl rfl ?_
  intro w0 A
  refine T_seq (T_reg ?_)
  refine R_q _ rfl (v_boxD (cva (ov rfl)) rfl tZ_24 rfl) ?_
  refine R_w _ _ rfl (w_alloc (row := [_, _]) 0 rfl tZ46 rfl tZ_46) ?_
  refine R_q _ rfl (v_assign (ov rfl)) ?_
  refine R_q _ rfl (v_assign (ov rfl)) ?_
  refine R_nil ?_
  refine T_seq ?_
  refine T_keep (kc 1 rfl <| kc 2 rfl <| kc 4 rfl <| kn) rfl ?_
  refine T_seq (T_reg ?_)
  refine R_q _ rfl (v_loadA_r (ov rfl) tA24 rfl rfl) ?_
  obtain ⟨y, h_y, h⟩ := bnd h
  refine R_q _ rfl (v_call (ok_series_Check h_y) (.cons (ov rfl) (.aggB rfl) <| .nil)) ?_
  refine R_q _ rfl (v_assign (ov rfl)) ?_
  refine R_nil ?_
  refine T_keep (kc 1 rfl <| kc 2 rfl <| kc 4 rfl <| kc 7 rfl <| kn) rfl ?_
  refine T_seq (T_reg ?_)
  refine R_q _ rfl (v_move (ov rfl)) ?_
  refine R_q _ rfl (v_neq (ov rfl) (ov rfl)) ?_
  refine R_nil ?_
  refine T_keep (kc 1 rfl <| kc 2 rfl <| kc 4 rfl <| kc 7 rfl <| kc 20 rfl <| kn) rfl ?_
  refine T_if h rfl (fun b20 h => ?_) (fun b20 h => ?_)
  · skip
    refine T_keep (kc 4 rfl <| kc 7 rfl <| kn) rfl ?_
    refine T_seq (T_reg ?_)
    refine R_q _ rfl (v_build (ys := [_, _]) tPL46 tHA46 tZ46 (.nil) rfl) ?_
    refine R_q _ rfl (v_move (ov rfl)) ?_
    refine R_w _ _ rfl (w_store (ov rfl) (ov rfl) (cells_agg tA46 rfl) rfl rfl rfl (Nat.le_of_ble_eq_true rfl) (cell1_all rfl) rfl) ?_
    refine R_q _ rfl (v_assign (ov rfl)) ?_
    refine R_q _ rfl (v_assign (ov rfl)) ?_
    refine R_nil ?_
    obtain rfl := rt (v := ((api_Ratio.mk 0 0), 0, y)) h
    refine T_ret (retq ?_ (.three (.agg rfl rfl rfl rfl tA46 rfl rfl (pwB rfl)) (.tmp rfl (Dat.view (.b rfl))) (.tmp rfl (Dat.view (.b rfl)))))
    rfl
  · skip
    refine T_skip ?_
    refine T_seq ?_
    refine T_keep (kc 1 rfl <| kc 2 rfl <| kc 4 rfl <| kn) rfl ?_
    refine T_seq (T_reg ?_)
    refine R_q _ rfl (v_move (ov rfl)) ?_
    obtain ⟨y2, h_y2, h⟩ := bnd h
    refine R_q _ rfl (v_call (ok_series_within h_y2) (.cons (ov rfl) (.b rfl) <| .cons (ov rfl) (.b rfl) <| .cons (ov rfl) (.b rfl) <| .nil)) ?_
    refine R_q _ rfl (v_not (ov rfl)) ?_
    refine R_nil ?_
    refine T_keep (kc 1 rfl <| kc 2 rfl <| kc 4 rfl <| kc 25 rfl <| kn) rfl ?_
    refine T_if h rfl (fun b25 h => ?_) (fun b25 h => ?_)
    · skip
      refine T_keep (kc 4 rfl <| kn) rfl ?_
      refine T_seq (T_reg ?_)
      refine R_q _ rfl (v_build (ys := [_, _]) tPL46 tHA46 tZ46 (.nil) rfl) ?_
      refine R_w _ _ rfl (w_store (ov rfl) (ov rfl) (cells_agg tA46 rfl) rfl rfl rfl (Nat.le_of_ble_eq_true rfl) (cell1_all rfl) rfl) ?_
      refine R_q _ rfl (v_assign (ov rfl)) ?_
      refine R_q _ rfl (v_assign (ov rfl)) ?_
      refine R_nil ?_
      obtain rfl := rt (v := ((api_Ratio.mk 0 0), 0, 9)) h
      refine T_ret (retq ?_ (.three (.agg rfl rfl rfl rfl tA46 rfl rfl (pwB rfl)) (.tmp rfl (Dat.view (.b rfl))) (.tmp rfl (Dat.view (.b rfl)))))
      rfl
    · skip
      refine T_skip ?_
      refine T_keep (kc 1 rfl <| kc 2 rfl <| kc 4 rfl <| kn) rfl ?_
      refine T_seq (T_reg ?_)
      refine R_q _ rfl (v_loadA_r (ov rfl) tA24 rfl rfl) ?_
      obtain ⟨y3, h_y3, h⟩ := bnd h
      refine R_q _ rfl (v_call (ok_series_solids h_y3) (.cons (ov rfl) (.aggB rfl) <| .nil)) ?_
      refine R_q _ rfl (v_assign (ov rfl)) ?_
      refine R_nil ?_
      refine T_keep (kc 1 rfl <| kc 2 rfl <| kc 4 rfl <| kc 8 rfl <| kn) rfl ?_
      refine T_seq (T_reg ?_)
      refine R_q _ rfl (v_assign (ov rfl)) ?_
      refine R_q _ rfl (v_assign (ov rfl)) ?_
      refine R_q _ rfl (v_assign (ov rfl)) ?_
      refine R_nil ?_
      refine T_joinG id (t3 fun best num den => ⟨[(4, .ptr 0 1 0 0), (9, .int .i64 best), (10, .int .i64 num), (11, .int .i64 den)], [some ⟨46, [[.int .i64 0, .int .i64 0]]⟩]⟩) h (fun h => ?_) (fun j h => ?_)
      · skip
        refine T_seq (T_reg ?_)
        refine R_q _ rfl (v_assign (ov rfl)) ?_
        refine R_nil ?_
        refine T_block ?_
        obtain ⟨r1, hl1, ho1⟩ := bndL h
        refine T_loopG _ (t4 fun best2 num2 den2 i => ⟨[(1, .int .i64 long), (2, .rp [.int .i64 s.Den, .sl 69 (List.map R69 s.Samples)] 0), (4, .ptr 0 1 0 0), (8, .sl 3 (List.map R3 y3)), (9, .int .i64 best2), (10, .int .i64 num2), (11, .int .i64 den2), (12, .int .i64 i)], [some ⟨46, [[.int .i64 0, .int .i64 0]]⟩]⟩) _ hl1 (Ent.sel [some 0] (sd 1 rfl rfl <| sd 2 rfl rfl <| sr 4 rfl (.ptr _ _ _ rfl) <| sd 8 rfl rfl <| sd 9 rfl rfl <| sd 10 rfl rfl <| sd 11 rfl rfl <| sd 12 rfl rfl <| sn) (.cons rfl (ro1 (by exact tZ_46.symm) (rld rfl)) <| .nil) rfl rfl) (fun n1 s1 h => ?_)
        obtain ⟨best2, num2, den2, i⟩ := s1
        replace h := t4i h
        refine t4T ?_
        unfold series_Steepest_L1 at h
        refine T_seq ?_
        refine T_seq (T_reg ?_)
        refine R_q _ rfl (v_move (ov rfl)) ?_
        refine R_q _ rfl (v_move (ov rfl)) ?_
        refine R_q _ rfl (v_len (slv_sl (ov rfl) tZ_3) tL33 (len_map _ _)) ?_
        refine R_q _ rfl (v_lss (ov rfl) (ov rfl)) ?_
        refine R_nil ?_
        refine T_keep (kc 1 rfl <| kc 2 rfl <| kc 4 rfl <| kc 8 rfl <| kc 9 rfl <| kc 10 rfl <| kc 11 rfl <| kc 12 rfl <| kc 32 rfl <| kn) rfl ?_
        refine T_if h rfl (fun b32 h => ?_) (fun b32 h => ?_)
        · skip
          refine T_skip ?_
          refine T_joinG id (t3 fun best3 num3 den3 => ⟨[(1, .int .i64 long), (2, .rp [.int .i64 s.Den, .sl 69 (List.map R69 s.Samples)] 0), (4, .ptr 0 1 0 0), (8, .sl 3 (List.map R3 y3)), (9, .int .i64 best3), (10, .int .i64 num3), (11, .int .i64 den3), (12, .int .i64 i)], [some ⟨46, [[.int .i64 0, .int .i64 0]]⟩]⟩) h (fun h => ?_) (fun j h => ?_)
          · skip
            refine T_block ?_
            refine T_keep (kc 1 rfl <| kc 2 rfl <| kc 4 rfl <| kc 8 rfl <| kc 9 rfl <| kc 10 rfl <| kc 11 rfl <| kc 12 rfl <| kn) rfl ?_
            refine T_seq (T_draw (cw := ⟨false, false, [], [35, 36, 40, 41, 42, 43, 44, 45, 48, 49, 50, 51], []⟩) (by kernel_rfl) ?_)
            refine D_free 0 _ rfl (by kernel_rfl) rfl rfl (fun hp' => v_fieldR (ov rfl) tF24_1) ?_
            refine D_free 1 _ rfl (by kernel_rfl) rfl rfl (fun hp' => v_loadS_r (ov rfl) tS22 rfl) ?_
            refine D_free 2 _ rfl (by kernel_rfl) rfl rfl (fun hp' => v_move (ov rfl)) ?_
            refine D_free 3 _ rfl (by kernel_rfl) rfl rfl (fun hp' => v_move (ov rfl)) ?_
            refine D_free 4 _ rfl (by kernel_rfl) rfl rfl (fun hp' => v_sub (ov rfl) (ov rfl) rfl) ?_
            obtain ⟨x, h_x, h⟩ := bnd h
            refine D_free 5 _ rfl (by kernel_rfl) rfl rfl (fun hp' => v_ixSG (ov rfl) (ov rfl) tL33 h_x) ?_
            refine D_free 6 _ rfl (by kernel_rfl) rfl rfl (fun hp' => v_loadS_r (ov rfl) tS3 rfl) ?_
            obtain ⟨x2, h_x2, h⟩ := bnd h
            refine D_free 7 _ rfl (by kernel_rfl) rfl rfl (fun hp' => v_ixSG (ov rfl) (ov rfl) tL22 h_x2) ?_
            refine D_free 8 _ rfl (by kernel_rfl) rfl rfl (fun hp' => v_loadA_r (ov rfl) tA69 rfl rfl) ?_
            refine D_free 9 _ rfl (by kernel_rfl) rfl rfl (fun hp' => v_fieldR (ov rfl) tF24_1) ?_
            refine D_free 10 _ rfl (by kernel_rfl) rfl rfl (fun hp' => v_loadS_r (ov rfl) tS22 rfl) ?_
            refine D_free 11 _ rfl (by kernel_rfl) rfl rfl (fun hp' => v_move (ov rfl)) ?_
            refine D_free 12 _ rfl (by kernel_rfl) rfl rfl (fun hp' => v_move (ov rfl)) ?_
            obtain ⟨x3, h_x3, h⟩ := bnd h
            refine D_free 13 _ rfl (by kernel_rfl) rfl rfl (fun hp' => v_ixSG (ov rfl) (ov rfl) tL33 h_x3) ?_
            refine D_free 14 _ rfl (by kernel_rfl) rfl rfl (fun hp' => v_loadS_r (ov rfl) tS3 rfl) ?_
            obtain ⟨x4, h_x4, h⟩ := bnd h
            refine D_free 15 _ rfl (by kernel_rfl) rfl rfl (fun hp' => v_ixSG (ov rfl) (ov rfl) tL22 h_x4) ?_
            refine D_free 16 _ rfl (by kernel_rfl) rfl rfl (fun hp' => v_loadA_r (ov rfl) tA69 rfl rfl) ?_
            refine D_two 17 18 rfl rfl (by kernel_rfl) rfl rfl rfl rfl (fun _ => Ext.app) (fun _ => Ext.app) (fun h => by cases h) (fun h => by cases h) (w_alloc (row := [_, _, _]) 1 rfl tZ69 rfl tZ_69) (w_alloc (row := [_, _, _]) 1 rfl tZ69 rfl tZ_69) ?_ ?_
            · skip
              refine D_one 18 _ _ rfl (by kernel_rfl) rfl rfl (fun _ => Ext.app) (fun h => by cases h) (w_alloc (row := [_, _, _]) 2 rfl tZ69 rfl tZ_69) ?_
              refine D_one 19 _ _ rfl (by kernel_rfl) rfl rfl (fun h => by cases h) (fun h => by cases h) (w_store (ov rfl) (ov rfl) (cells_agg tA69 rfl) rfl rfl rfl (Nat.le_of_ble_eq_true rfl) (cell1_all rfl) rfl) ?_
              refine D_one 20 _ _ rfl (by kernel_rfl) rfl rfl (fun h => by cases h) (fun h => by cases h) (w_store (ov rfl) (ov rfl) (cells_agg tA69 rfl) rfl rfl rfl (Nat.le_of_ble_eq_true rfl) (cell1_all rfl) rfl) ?_
              refine D_done (by kernel_rfl) ?_
              refine T_keep (kc 1 rfl <| kc 2 rfl <| kc 4 rfl <| kc 8 rfl <| kc 9 rfl <| kc 10 rfl <| kc 11 rfl <| kc 12 rfl <| kc 13 rfl <| kc 14 rfl <| kn) rfl ?_
              refine T_seq (T_draw (cw := md0) (by kernel_rfl) ?_)
              refine D_read 0 _ rfl (by kernel_rfl) rfl rfl rfl ExtW.refl (fun hp' hx => v_fieldP (ov rfl) (hx.get rfl rfl) rfl tF69_1) ?_
              refine D_read 1 _ rfl (by kernel_rfl) rfl rfl rfl ExtW.refl (fun hp' hx => v_loadS (ov rfl) (hx.get rfl rfl) rfl rfl tS3 rfl) ?_
              refine D_read 2 _ rfl (by kernel_rfl) rfl rfl rfl ExtW.refl (fun hp' hx => v_fieldP (ov rfl) (hx.get rfl rfl) rfl tF69_1) ?_
              refine D_read 3 _ rfl (by kernel_rfl) rfl rfl rfl ExtW.refl (fun hp' hx => v_loadS (ov rfl) (hx.get rfl rfl) rfl rfl tS3 rfl) ?_
              refine D_free 4 _ rfl (by kernel_rfl) rfl rfl (fun hp' => v_sub (ov rfl) (ov rfl) rfl) ?_
              obtain ⟨y4, h_y4, h⟩ := bnd h
              refine D_read 5 _ rfl (by kernel_rfl) rfl rfl rfl ExtW.refl (fun hp' hx => v_call (ok_series_size h_y4) (.cons (ov rfl) (.b rfl) <| .nil)) ?_
              refine D_read 6 _ rfl (by kernel_rfl) rfl rfl rfl ExtW.refl (fun hp' hx => v_fieldP (ov rfl) (hx.get rfl rfl) rfl tF69_0) ?_
              refine D_read 7 _ rfl (by kernel_rfl) rfl rfl rfl ExtW.refl (fun hp' hx => v_loadS (ov rfl) (hx.get rfl rfl) rfl rfl tS3 rfl) ?_
              refine D_read 8 _ rfl (by kernel_rfl) rfl rfl rfl ExtW.refl (fun hp' hx => v_fieldP (ov rfl) (hx.get rfl rfl) rfl tF69_0) ?_
              refine D_read 9 _ rfl (by kernel_rfl) rfl rfl rfl ExtW.refl (fun hp' hx => v_loadS (ov rfl) (hx.get rfl rfl) rfl rfl tS3 rfl) ?_
              refine D_free 10 _ rfl (by kernel_rfl) rfl rfl (fun hp' => v_sub (ov rfl) (ov rfl) rfl) ?_
              refine D_free 11 _ rfl (by kernel_rfl) rfl rfl (fun hp' => v_assign (ov rfl)) ?_
              refine D_free 12 _ rfl (by kernel_rfl) rfl rfl (fun hp' => v_assign (ov rfl)) ?_
              refine D_done (by kernel_rfl) ?_
              refine T_keep (kc 1 rfl <| kc 2 rfl <| kc 4 rfl <| kc 8 rfl <| kc 9 rfl <| kc 10 rfl <| kc 11 rfl <| kc 12 rfl <| kc 15 rfl <| kc 16 rfl <| kn) rfl ?_
              refine T_seq (T_reg ?_)
              refine R_q _ rfl (v_move (ov rfl)) ?_
              refine R_q _ rfl (v_move (ov rfl)) ?_
              refine R_q _ rfl (v_leq (ov rfl) (ov rfl)) ?_
              refine R_q _ rfl (v_move (ov rfl)) ?_
              refine R_q _ rfl (.guarded ((decide ((i64 (x4.At - x2.At)) ≤ long)) == true) rfl rfl rfl rfl fun h => v_move (ov rfl)) ?_
              refine R_q _ rfl (.guarded ((decide ((i64 (x4.At - x2.At)) ≤ long)) == true) rfl rfl rfl rfl fun h => v_lss (ow rfl h) (ov rfl)) ?_
              refine R_q _ rfl (.guarded ((decide ((i64 (x4.At - x2.At)) ≤ long)) == true) rfl rfl rfl rfl fun h => v_move (ow rfl h)) ?_
              refine R_q _ rfl (.guarded2 (((decide ((i64 (x4.At - x2.At)) ≤ long)) == true) && ((decide (best2 < 0)) == false)) rfl rfl rfl rfl fun h => v_move (ov rfl)) ?_
              refine R_q _ rfl (.guarded2 (((decide ((i64 (x4.At - x2.At)) ≤ long)) == true) && ((decide (best2 < 0)) == false)) rfl rfl rfl rfl fun h => v_move (ov rfl)) ?_
              refine R_q _ rfl (.guarded2 (((decide ((i64 (x4.At - x2.At)) ≤ long)) == true) && ((decide (best2 < 0)) == false)) rfl rfl rfl rfl fun h => v_move (ov rfl)) ?_
              refine R_q _ rfl (.guarded2 (((decide ((i64 (x4.At - x2.At)) ≤ long)) == true) && ((decide (best2 < 0)) == false)) rfl rfl rfl rfl fun h => v_move (ov rfl)) ?_
              obtain ⟨y5, h_y5, h⟩ := bnd h
              refine R_q _ rfl (.guarded2 (((decide ((i64 (x4.At - x2.At)) ≤ long)) == true) && ((decide (best2 < 0)) == false)) rfl rfl rfl rfl fun h => v_call (ok_series_steeper (gdT h_y5 h)) (.cons (ow rfl h) (.b rfl) <| .cons (ow rfl h) (.b rfl) <| .cons (ow rfl h) (.b rfl) <| .cons (ow rfl h) (.b rfl) <| .nil)) ?_
              refine R_q _ rfl (.guarded ((decide ((i64 (x4.At - x2.At)) ≤ long)) == true) rfl rfl rfl rfl fun h => v_or (ow rfl h) (fun hp => ow rfl (gA h (gF hp)))) ?_
              refine R_q _ rfl (v_and (ov rfl) (fun hp => ow rfl (gT hp))) ?_
              refine R_nil ?_
              refine T_keep (kc 1 rfl <| kc 2 rfl <| kc 4 rfl <| kc 8 rfl <| kc 9 rfl <| kc 10 rfl <| kc 11 rfl <| kc 12 rfl <| kc 15 rfl <| kc 16 rfl <| kc 76 rfl <| kn) rfl ?_
              refine T_if h rfl (fun b76 h => ?_) (fun b76 h => ?_)
              · skip
                refine T_keep (kc 1 rfl <| kc 2 rfl <| kc 4 rfl <| kc 8 rfl <| kc 9 rfl <| kc 10 rfl <| kc 11 rfl <| kc 12 rfl <| kc 15 rfl <| kc 16 rfl <| kn) rfl ?_
                refine T_reg ?_
                refine R_q _ rfl (v_move (ov rfl)) ?_
                refine R_q _ rfl (v_move (ov rfl)) ?_
                obtain ⟨x5, h_x5, h⟩ := bnd h
                refine R_q _ rfl (v_ixSG (ov rfl) (ov rfl) tL33 h_x5) ?_
                refine R_q _ rfl (v_loadS_r (ov rfl) tS3 rfl) ?_
                refine R_q _ rfl (v_move (ov rfl)) ?_
                refine R_q _ rfl (v_move (ov rfl)) ?_
                refine R_q _ rfl (v_assign (ov rfl)) ?_
                refine R_q _ rfl (v_assign (ov rfl)) ?_
                refine R_q _ rfl (v_assign (ov rfl)) ?_
                refine R_nil ?_
                exact ⟨(x5, y4, (i64 (x4.At - x2.At))), h, Ent.sel [some 0] (sd 1 rfl rfl <| sd 2 rfl rfl <| sr 4 rfl (.ptr _ _ _ rfl) <| sd 8 rfl rfl <| sd 9 rfl rfl <| sd 10 rfl rfl <| sd 11 rfl rfl <| sd 12 rfl rfl <| sn) (.cons rfl (ro1 (by exact tZ_46.symm) (rld rfl)) <| .nil) rfl rfl⟩
              · skip
                refine T_skip ?_
                exact ⟨(best2, num2, den2), h, Ent.sel [some 0] (sd 1 rfl rfl <| sd 2 rfl rfl <| sr 4 rfl (.ptr _ _ _ rfl) <| sd 8 rfl rfl <| sd 9 rfl rfl <| sd 10 rfl rfl <| sd 11 rfl rfl <| sd 12 rfl rfl <| sn) (.cons rfl (ro1 (by exact tZ_46.symm) (rld rfl)) <| .nil) rfl rfl⟩
            · skip
              refine D_one 17 _ _ rfl (by kernel_rfl) rfl rfl (fun _ => Ext.app) (fun h => by cases h) (w_alloc (row := [_, _, _]) 2 rfl tZ69 rfl tZ_69) ?_
              refine D_one 19 _ _ rfl (by kernel_rfl) rfl rfl (fun h => by cases h) (fun h => by cases h) (w_store (ov rfl) (ov rfl) (cells_agg tA69 rfl) rfl rfl rfl (Nat.le_of_ble_eq_true rfl) (cell1_all rfl) rfl) ?_
              refine D_one 20 _ _ rfl (by kernel_rfl) rfl rfl (fun h => by cases h) (fun h => by cases h) (w_store (ov rfl) (ov rfl) (cells_agg tA69 rfl) rfl rfl rfl (Nat.le_of_ble_eq_true rfl) (cell1_all rfl) rfl) ?_
              refine D_done (by kernel_rfl) ?_
              refine T_keep (kc 1 rfl <| kc 2 rfl <| kc 4 rfl <| kc 8 rfl <| kc 9 rfl <| kc 10 rfl <| kc 11 rfl <| kc 12 rfl <| kc 13 rfl <| kc 14 rfl <| kn) rfl ?_
              refine T_seq (T_draw (cw := md0) (by kernel_rfl) ?_)
              refine D_read 0 _ rfl (by kernel_rfl) rfl rfl rfl ExtW.refl (fun hp' hx => v_fieldP (ov rfl) (hx.get rfl rfl) rfl tF69_1) ?_
              refine D_read 1 _ rfl (by kernel_rfl) rfl rfl rfl ExtW.refl (fun hp' hx => v_loadS (ov rfl) (hx.get rfl rfl) rfl rfl tS3 rfl) ?_
              refine D_read 2 _ rfl (by kernel_rfl) rfl rfl rfl ExtW.refl (fun hp' hx => v_fieldP (ov rfl) (hx.get rfl rfl) rfl tF69_1) ?_
              refine D_read 3 _ rfl (by kernel_rfl) rfl rfl rfl ExtW.refl (fun hp' hx => v_loadS (ov rfl) (hx.get rfl rfl) rfl rfl tS3 rfl) ?_
              refine D_free 4 _ rfl (by kernel_rfl) rfl rfl (fun hp' => v_sub (ov rfl) (ov rfl) rfl) ?_
              obtain ⟨y4, h_y4, h⟩ := bnd h
              refine D_read 5 _ rfl (by kernel_rfl) rfl rfl rfl ExtW.refl (fun hp' hx => v_call (ok_series_size h_y4) (.cons (ov rfl) (.b rfl) <| .nil)) ?_
              refine D_read 6 _ rfl (by kernel_rfl) rfl rfl rfl ExtW.refl (fun hp' hx => v_fieldP (ov rfl) (hx.get rfl rfl) rfl tF69_0) ?_
              refine D_read 7 _ rfl (by kernel_rfl) rfl rfl rfl ExtW.refl (fun hp' hx => v_loadS (ov rfl) (hx.get rfl rfl) rfl rfl tS3 rfl) ?_
              refine D_read 8 _ rfl (by kernel_rfl) rfl rfl rfl ExtW.refl (fun hp' hx => v_fieldP (ov rfl) (hx.get rfl rfl) rfl tF69_0) ?_
              refine D_read 9 _ rfl (by kernel_rfl) rfl rfl rfl ExtW.refl (fun hp' hx => v_loadS (ov rfl) (hx.get rfl rfl) rfl rfl tS3 rfl) ?_
              refine D_free 10 _ rfl (by kernel_rfl) rfl rfl (fun hp' => v_sub (ov rfl) (ov rfl) rfl) ?_
              refine D_free 11 _ rfl (by kernel_rfl) rfl rfl (fun hp' => v_assign (ov rfl)) ?_
              refine D_free 12 _ rfl (by kernel_rfl) rfl rfl (fun hp' => v_assign (ov rfl)) ?_
              refine D_done (by kernel_rfl) ?_
              refine T_keep (kc 1 rfl <| kc 2 rfl <| kc 4 rfl <| kc 8 rfl <| kc 9 rfl <| kc 10 rfl <| kc 11 rfl <| kc 12 rfl <| kc 15 rfl <| kc 16 rfl <| kn) rfl ?_
              refine T_seq (T_reg ?_)
              refine R_q _ rfl (v_move (ov rfl)) ?_
              refine R_q _ rfl (v_move (ov rfl)) ?_
              refine R_q _ rfl (v_leq (ov rfl) (ov rfl)) ?_
              refine R_q _ rfl (v_move (ov rfl)) ?_
              refine R_q _ rfl (.guarded ((decide ((i64 (x4.At - x2.At)) ≤ long)) == true) rfl rfl rfl rfl fun h => v_move (ov rfl)) ?_
              refine R_q _ rfl (.guarded ((decide ((i64 (x4.At - x2.At)) ≤ long)) == true) rfl rfl rfl rfl fun h => v_lss (ow rfl h) (ov rfl)) ?_
              refine R_q _ rfl (.guarded ((decide ((i64 (x4.At - x2.At)) ≤ long)) == true) rfl rfl rfl rfl fun h => v_move (ow rfl h)) ?_
              refine R_q _ rfl (.guarded2 (((decide ((i64 (x4.At - x2.At)) ≤ long)) == true) && ((decide (best2 < 0)) == false)) rfl rfl rfl rfl fun h => v_move (ov rfl)) ?_
              refine R_q _ rfl (.guarded2 (((decide ((i64 (x4.At - x2.At)) ≤ long)) == true) && ((decide (best2 < 0)) == false)) rfl rfl rfl rfl fun h => v_move (ov rfl)) ?_
              refine R_q _ rfl (.guarded2 (((decide ((i64 (x4.At - x2.At)) ≤ long)) == true) && ((decide (best2 < 0)) == false)) rfl rfl rfl rfl fun h => v_move (ov rfl)) ?_
              refine R_q _ rfl (.guarded2 (((decide ((i64 (x4.At - x2.At)) ≤ long)) == true) && ((decide (best2 < 0)) == false)) rfl rfl rfl rfl fun h => v_move (ov rfl)) ?_
              obtain ⟨y5, h_y5, h⟩ := bnd h
              refine R_q _ rfl (.guarded2 (((decide ((i64 (x4.At - x2.At)) ≤ long)) == true) && ((decide (best2 < 0)) == false)) rfl rfl rfl rfl fun h => v_call (ok_series_steeper (gdT h_y5 h)) (.cons (ow rfl h) (.b rfl) <| .cons (ow rfl h) (.b rfl) <| .cons (ow rfl h) (.b rfl) <| .cons (ow rfl h) (.b rfl) <| .nil)) ?_
              refine R_q _ rfl (.guarded ((decide ((i64 (x4.At - x2.At)) ≤ long)) == true) rfl rfl rfl rfl fun h => v_or (ow rfl h) (fun hp => ow rfl (gA h (gF hp)))) ?_
              refine R_q _ rfl (v_and (ov rfl) (fun hp => ow rfl (gT hp))) ?_
              refine R_nil ?_
              refine T_keep (kc 1 rfl <| kc 2 rfl <| kc 4 rfl <| kc 8 rfl <| kc 9 rfl <| kc 10 rfl <| kc 11 rfl <| kc 12 rfl <| kc 15 rfl <| kc 16 rfl <| kc 76 rfl <| kn) rfl ?_
              refine T_if h rfl (fun b76 h => ?_) (fun b76 h => ?_)
              · skip
                refine T_keep (kc 1 rfl <| kc 2 rfl <| kc 4 rfl <| kc 8 rfl <| kc 9 rfl <| kc 10 rfl <| kc 11 rfl <| kc 12 rfl <| kc 15 rfl <| kc 16 rfl <| kn) rfl ?_
                refine T_reg ?_
                refine R_q _ rfl (v_move (ov rfl)) ?_
                refine R_q _ rfl (v_move (ov rfl)) ?_
                obtain ⟨x5, h_x5, h⟩ := bnd h
                refine R_q _ rfl (v_ixSG (ov rfl) (ov rfl) tL33 h_x5) ?_
                refine R_q _ rfl (v_loadS_r (ov rfl) tS3 rfl) ?_
                refine R_q _ rfl (v_move (ov rfl)) ?_
                refine R_q _ rfl (v_move (ov rfl)) ?_
                refine R_q _ rfl (v_assign (ov rfl)) ?_
                refine R_q _ rfl (v_assign (ov rfl)) ?_
                refine R_q _ rfl (v_assign (ov rfl)) ?_
                refine R_nil ?_
                exact ⟨(x5, y4, (i64 (x4.At - x2.At))), h, Ent.sel [some 0] (sd 1 rfl rfl <| sd 2 rfl rfl <| sr 4 rfl (.ptr _ _ _ rfl) <| sd 8 rfl rfl <| sd 9 rfl rfl <| sd 10 rfl rfl <| sd 11 rfl rfl <| sd 12 rfl rfl <| sn) (.cons rfl (ro1 (by exact tZ_46.symm) (rld rfl)) <| .nil) rfl rfl⟩
              · skip
                refine T_skip ?_
                exact ⟨(best2, num2, den2), h, Ent.sel [some 0] (sd 1 rfl rfl <| sd 2 rfl rfl <| sr 4 rfl (.ptr _ _ _ rfl) <| sd 8 rfl rfl <| sd 9 rfl rfl <| sd 10 rfl rfl <| sd 11 rfl rfl <| sd 12 rfl rfl <| sn) (.cons rfl (ro1 (by exact tZ_46.symm) (rld rfl)) <| .nil) rfl rfl⟩
          · skip
            obtain ⟨best3, num3, den3⟩ := j
            replace h := t3i h
            refine t3T ?_
            refine T_reg ?_
            refine R_q _ rfl (v_move (ov rfl)) ?_
            refine R_q _ rfl (v_add (ov rfl) (ov rfl) rfl) ?_
            refine R_q _ rfl (v_assign (ov rfl)) ?_
            refine R_nil ?_
            exact ⟨(best3, num3, den3, (i64 (i + 1))), h, Ent.sel [some 0] (sd 1 rfl rfl <| sd 2 rfl rfl <| sr 4 rfl (.ptr _ _ _ rfl) <| sd 8 rfl rfl <| sd 9 rfl rfl <| sd 10 rfl rfl <| sd 11 rfl rfl <| sd 12 rfl rfl <| sn) (.cons rfl (ro1 (by exact tZ_46.symm) (rld rfl)) <| .nil) rfl rfl⟩
        · skip
          refine T_exit ?_
          rw [lx h] at ho1
          replace h := ho1
          exact ⟨(best2, num2, den2), h, Ent.sel [some 0] (sr 4 rfl (.ptr _ _ _ rfl) <| sd 9 rfl rfl <| sd 10 rfl rfl <| sd 11 rfl rfl <| sn) (.cons rfl (ro1 (by exact tZ_46.symm) (rld rfl)) <| .nil) rfl rfl⟩
      · skip
        obtain ⟨best, num, den⟩ := j
        replace h := t3i h
        refine t3T ?_
        refine T_seq ?_
        refine T_seq (T_reg ?_)
        refine R_q _ rfl (v_move (ov rfl)) ?_
        refine R_q _ rfl (v_lss (ov rfl) (ov rfl)) ?_
        refine R_nil ?_
        refine T_keep (kc 4 rfl <| kc 9 rfl <| kc 10 rfl <| kc 11 rfl <| kc 84 rfl <| kn) rfl ?_
        refine T_if h rfl (fun b84 h => ?_) (fun b84 h => ?_)
        · skip
          refine T_keep (kc 4 rfl <| kn) rfl ?_
          refine T_seq (T_reg ?_)
          refine R_q _ rfl (v_build (ys := [_, _]) tPL46 tHA46 tZ46 (.nil) rfl) ?_
          refine R_w _ _ rfl (w_store (ov rfl) (ov rfl) (cells_agg tA46 rfl) rfl rfl rfl (Nat.le_of_ble_eq_true rfl) (cell1_all rfl) rfl) ?_
          refine R_q _ rfl (v_assign (ov rfl)) ?_
          refine R_q _ rfl (v_assign (ov rfl)) ?_
          refine R_nil ?_
          obtain rfl := rt (v := ((api_Ratio.mk 0 0), 0, 13)) h
          refine T_ret (retq ?_ (.three (.agg rfl rfl rfl rfl tA46 rfl rfl (pwB rfl)) (.tmp rfl (Dat.view (.b rfl))) (.tmp rfl (Dat.view (.b rfl)))))
          rfl
        · skip
          refine T_skip ?_
          refine T_keep (kc 4 rfl <| kc 9 rfl <| kc 10 rfl <| kc 11 rfl <| kn) rfl ?_
          refine T_seq (T_reg ?_)
          refine R_q _ rfl (v_move (ov rfl)) ?_
          refine R_q _ rfl (v_move (ov rfl)) ?_
          obtain ⟨y6, h_y6, h⟩ := bnd h
          refine R_q _ rfl (v_call (ok_series_ratio h_y6) (.cons (ov rfl) (.b rfl) <| .cons (ov rfl) (.b rfl) <| .nil)) ?_
          refine R_q _ rfl (v_move (ov rfl)) ?_
          refine R_w _ _ rfl (w_store (ov rfl) (ov rfl) (cells_agg tA46 rfl) rfl rfl rfl (Nat.le_of_ble_eq_true rfl) (cell1_all rfl) rfl) ?_
          refine R_q _ rfl (v_assign (ov rfl)) ?_
          refine R_q _ rfl (v_assign (ov rfl)) ?_
          refine R_nil ?_
          obtain rfl := rt (v := (y6, best, 0)) h
          refine T_ret (retq ?_ (.three (.agg rfl rfl rfl rfl tA46 rfl rfl (pwB rfl)) (.tmp rfl (Dat.view (.b rfl))) (.tmp rfl (Dat.view (.b rfl)))))
          rfl

theorem ok_ref5_Solids {s : api_Series} {r : (List Int)} (h : ref5_Solids s = some r) :
    CSpec Tryd.prog gl0 51 [.agg [.int .i64 s.Den, .sl 69 (List.map R69 s.Samples)]] (.sl 3 (List.map R3 r)) := by
  unfold ref5_Solids at h
  replace h := bnd0 h
  refine spec_of (by kernel_rfl) Tryd.func51 rfl rfl ?_
  intro w0 A
  refine T_seq (T_reg ?_)
  refine R_q _ rfl (v_boxD (cva (ov rfl)) rfl tZ_24 rfl) ?_
  refine R_q _ rfl (v_assign (ov rfl)) ?_
  refine R_nil ?_
  refine T_keep (kc 1 rfl <| kn) rfl ?_
  refine T_seq (T_reg ?_)
  refine R_q _ rfl (v_assign (ov rfl)) ?_
  refine R_nil ?_
  refine T_joinG id (t1 fun out => ⟨[(3, .own 0 out.length)], [some ⟨3, List.map R3 out⟩]⟩) h (fun h => ?_) (fun j h => ?_)
  · skip
    refine T_seq (T_reg ?_)
    refine R_q _ rfl (v_assign (ov rfl)) ?_
    refine R_nil ?_
    refine T_block ?_
    obtain ⟨r1, hl1, ho1⟩ := bndL h
    refine T_loopG _ (t2 fun out2 i => ⟨[(1, .rp [.int .i64 s.Den, .sl 69 (List.map R69 s.Samples)] 0), (3, .own 0 out2.length), (4, .int .i64 i)], [some ⟨3, List.map R3 out2⟩]⟩) _ hl1 (Ent.sel [none] (sd 1 rfl rfl <| sr 3 rfl (.row rfl) <| sd 4 rfl rfl <| sn) (.row 3 <| .nil) rfl rfl) (fun n1 s1 h => ?_)
    obtain ⟨out2, i⟩ := s1
    replace h := t2i h
    refine t2T ?_
    unfold ref5_Solids_L1 at h
    refine T_seq ?_
    refine T_seq (T_reg ?_)
    refine R_q _ rfl (v_move (ov rfl)) ?_
    refine R_q _ rfl (v_fieldR (ov rfl) tF24_1) ?_
    refine R_q _ rfl (v_loadS_r (ov rfl) tS22 rfl) ?_
    refine R_q _ rfl (v_len (slv_sl (ov rfl) tZ_69) tL22 (len_map _ _)) ?_
    refine R_q _ rfl (v_lss (ov rfl) (ov rfl)) ?_
    refine R_nil ?_
    refine T_keep (kc 1 rfl <| kc 3 rfl <| kc 4 rfl <| kc 9 rfl <| kn) rfl ?_
    refine T_if h rfl (fun b9 h => ?_) (fun b9 h => ?_)
    · skip
      refine T_skip ?_
      refine T_seq ?_
      refine T_block ?_
      refine T_keep (kc 1 rfl <| kc 3 rfl <| kc 4 rfl <| kn) rfl ?_
      refine T_seq (T_reg ?_)
      refine R_q _ rfl (v_fieldR (ov rfl) tF24_1) ?_
      refine R_q _ rfl (v_loadS_r (ov rfl) tS22 rfl) ?_
      refine R_q _ rfl (v_move (ov rfl)) ?_
      obtain ⟨x, h_x, h⟩ := bnd h
      refine R_q _ rfl (v_ixSG (ov rfl) (ov rfl) tL22 h_x) ?_
      refine R_q _ rfl (v_fieldR (ov rfl) tF69_2) ?_
      refine R_q _ rfl (v_loadS_r (ov rfl) tS3 rfl) ?_
      obtain ⟨y, h_y, h⟩ := bnd h
      refine R_q _ rfl (v_call (ok_ref5_solid h_y) (.cons (ov rfl) (.b rfl) <| .nil)) ?_
      refine R_nil ?_
      refine T_keep (kc 1 rfl <| kc 3 rfl <| kc 4 rfl <| kc 18 rfl <| kn) rfl ?_
      refine T_if h rfl (fun b18 h => ?_) (fun b18 h => ?_)
      · skip
        refine T_keep (kc 1 rfl <| kc 3 rfl <| kc 4 rfl <| kn) rfl ?_
        refine T_reg ?_
        refine R_q _ rfl (v_move (ov rfl)) ?_
        refine R_q _ rfl (v_move (ov rfl)) ?_
        refine R_q (.sl 3 (List.map R3 ([i] : List Int))) rfl (v_lit tL33 (.cons (cvs (ov rfl) (cell1_b rfl)) rfl (.cons (.b rfl) .nil) <| .nil) rfl rfl) ?_
        obtain ⟨l, h_l, h⟩ := bnd h
        refine R_w _ _ rfl (w_appendG (ov rfl) (slv_sl (ov rfl) tZ_3) tL33 rfl rfl rfl (fun _ => cell1_all rfl) rfl h_l) ?_
        refine R_q _ rfl (v_assign (ov rfl)) ?_
        refine R_nil ?_
        refine T_keep (kc 1 rfl <| kc 3 rfl <| kc 4 rfl <| kn) rfl ?_
        refine T_reg ?_
        refine R_q _ rfl (v_move (ov rfl)) ?_
        refine R_q _ rfl (v_add (ov rfl) (ov rfl) rfl) ?_
        refine R_q _ rfl (v_assign (ov rfl)) ?_
        refine R_nil ?_
        exact ⟨(l, (i64 (i + 1))), h, Ent.sel [some 0] (sd 1 rfl rfl <| sr 3 rfl (.own _ rfl) <| sd 4 rfl rfl <| sn) (.cons rfl (roM D3) <| .nil) rfl rfl⟩
      · skip
        refine T_skip ?_
        refine T_keep (kc 1 rfl <| kc 3 rfl <| kc 4 rfl <| kn) rfl ?_
        refine T_reg ?_
        refine R_q _ rfl (v_move (ov rfl)) ?_
        refine R_q _ rfl (v_add (ov rfl) (ov rfl) rfl) ?_
        refine R_q _ rfl (v_assign (ov rfl)) ?_
        refine R_nil ?_
        exact ⟨(out2, (i64 (i + 1))), h, Ent.sel [some 0] (sd 1 rfl rfl <| sr 3 rfl (.own _ rfl) <| sd 4 rfl rfl <| sn) (.cons rfl (roM D3) <| .nil) rfl rfl⟩
    · skip
      refine T_exit ?_
      rw [lx h] at ho1
      replace h := ho1
      exact ⟨out2, h, Ent.sel [some 0] (sr 3 rfl (.own _ rfl) <| sn) (.cons rfl (roM D3) <| .nil) rfl rfl⟩
  · skip
    obtain ⟨out, rfl⟩ : ∃ x, x = j := ⟨_, rfl⟩
    replace h := t1i h
    refine t1T ?_
    refine T_seq (T_reg ?_)
    refine R_q _ rfl (v_move (ov rfl)) ?_
    refine R_q _ rfl (v_assign (ov rfl)) ?_
    refine R_nil ?_
    obtain rfl := rt (v := out) h
    refine T_ret (retq ?_ (.one (.tmp rfl (View.ownM rfl rfl D3))))
    rfl

theorem ok_ref5_product {a : Int} {b : Int} {r : ref5_wide} (h : ref5_product a b = some r) :
    CSpec Tryd.prog gl0 79 [.int .i64 a, .int .i64 b] (.agg [.bool r.neg, .int .u64 r.high, .int .u64 r.low]) := by
  unfold ref5_product at h
  replace h := bnd0 h
  refine spec_of (by kernel_rfl) Tryd.func79 rfl rfl ?_
  intro w0 A
  refine T_seq (T_reg ?_)
  refine R_w _ _ rfl (w_alloc (row := [_, _, _]) 0 rfl tZ107 rfl tZ_107) ?_
  refine R_nil ?_
  refine T_seq (T_reg ?_)
  refine R_q _ rfl (v_move (ov rfl)) ?_
  refine R_q _ rfl (v_lss (ov rfl) (ov rfl)) ?_
  refine R_q _ rfl (v_assign (ov rfl)) ?_
  refine R_nil ?_
  refine T_joinG id (t1 fun a2 => ⟨[(0, .int .i64 a2), (1, .int .i64 b), (4, .ptr 0 1 0 0), (5, .bool (decide (a < 0)))], [some ⟨107, [[.bool false, .int .u64 0, .int .u64 0]]⟩]⟩) h (fun h => ?_) (fun j h => ?_)
  · skip
    refine T_keep (kc 0 rfl <| kc 1 rfl <| kc 4 rfl <| kc 5 rfl <| kn) rfl ?_
    refine T_seq (T_reg ?_)
    refine R_q _ rfl (v_move (ov rfl)) ?_
    refine R_nil ?_
    refine T_if h rfl (fun b10 h => ?_) (fun b10 h => ?_)
    · skip
      refine T_keep (kc 0 rfl <| kc 1 rfl <| kc 4 rfl <| kc 5 rfl <| kn) rfl ?_
      refine T_reg ?_
      refine R_q _ rfl (v_move (ov rfl)) ?_
      refine R_q _ rfl (v_neg (ov rfl) rfl) ?_
      refine R_q _ rfl (v_assign (ov rfl)) ?_
      refine R_nil ?_
      exact ⟨(i64 (-a)), h, Ent.sel [some 0] (sd 0 rfl rfl <| sd 1 rfl rfl <| sr 4 rfl (.ptr _ _ _ rfl) <| sd 5 rfl rfl <| sn) (.cons rfl (ro1 (by exact tZ_107.symm) (rld rfl)) <| .nil) rfl rfl⟩
    · skip
      refine T_skip ?_
      exact ⟨a, h, Ent.sel [some 0] (sd 0 rfl rfl <| sd 1 rfl rfl <| sr 4 rfl (.ptr _ _ _ rfl) <| sd 5 rfl rfl <| sn) (.cons rfl (ro1 (by exact tZ_107.symm) (rld rfl)) <| .nil) rfl rfl⟩
  · skip
    obtain ⟨a2, rfl⟩ : ∃ x, x = j := ⟨_, rfl⟩
    replace h := t1i h
    refine t1T ?_
    refine T_seq (T_reg ?_)
    refine R_q _ rfl (v_move (ov rfl)) ?_
    refine R_q _ rfl (v_conv (ov rfl) tI3 tI101 rfl) ?_
    refine R_q _ rfl (v_move (ov rfl)) ?_
    refine R_q _ rfl (v_conv (ov rfl) tI3 tI101 rfl) ?_
    obtain ⟨y, h_y, h⟩ := bnd h
    refine R_q _ rfl (v_call (ok_bits_Mul64 h_y) (.cons (ov rfl) (.b rfl) <| .cons (ov rfl) (.b rfl) <| .nil)) ?_
    refine R_q _ rfl (v_move (ov rfl)) ?_
    refine R_q _ rfl (v_extract (ov rfl) rfl) ?_
    refine R_q _ rfl (v_extract (ov rfl) rfl) ?_
    refine R_q _ rfl (v_assign (ov rfl)) ?_
    refine R_q _ rfl (v_assign (ov rfl)) ?_
    refine R_nil ?_
    refine T_keep (kc 4 rfl <| kc 5 rfl <| kc 6 rfl <| kc 7 rfl <| kn) rfl ?_
    refine T_seq (T_reg ?_)
    refine R_q _ rfl (v_move (ov rfl)) ?_
    refine R_q _ rfl (v_move (ov rfl)) ?_
    refine R_q _ rfl (v_move (ov rfl)) ?_
    refine R_q _ rfl (v_build (ys := [_, _, _]) tPL107 tHA107 tZ107 (.cons (cvs (ov rfl) (cell1_b rfl)) <| .cons (cvs (ov rfl) (cell1_b rfl)) <| .cons (cvs (ov rfl) (cell1_b rfl)) <| .nil) rfl) ?_
    refine R_w _ _ rfl (w_store (ov rfl) (ov rfl) (cells_agg tA107 rfl) rfl rfl rfl (Nat.le_of_ble_eq_true rfl) (cell1_all rfl) rfl) ?_
    refine R_nil ?_
    obtain rfl := rt (v := (ref5_wide.mk (decide (a < 0)) y.1 y.2)) h
    refine T_ret (retq ?_ (.one (.agg rfl rfl rfl rfl tA107 rfl rfl (pwB rfl))))
    rfl

theorem ok_ref5_steeper {a : Int} {b : Int} {c_ : Int} {d : Int} {r : Bool} (h : ref5_steeper a b c_ d = some r) :
    CSpec Tryd.prog gl0 64 [.int .i64 a, .int .i64 b, .int .i64 c_, .int .i64 d] (.bool r) := by
  unfold ref5_steeper at h
  replace h := bnd0 h
  refine spec_of (by kernel_rfl) Tryd.func64 rfl rfl ?_
  intro w0 A
  refine T_seq (T_reg ?_)
  refine R_q _ rfl (v_assign (ov rfl)) ?_
  refine R_nil ?_
  refine T_keep (kc 0 rfl <| kc 1 rfl <| kc 2 rfl <| kc 3 rfl <| kn) rfl ?_
  refine T_seq (T_reg ?_)
  refine R_q _ rfl (v_move (ov rfl)) ?_
  refine R_q _ rfl (v_move (ov rfl)) ?_
  obtain ⟨y, h_y, h⟩ := bnd h
  refine R_q _ rfl (v_call (ok_ref5_product h_y) (.cons (ov rfl) (.b rfl) <| .cons (ov rfl) (.b rfl) <| .nil)) ?_
  refine R_q _ rfl (v_move (ov rfl)) ?_
  refine R_q _ rfl (v_move (ov rfl)) ?_
  obtain ⟨y2, h_y2, h⟩ := bnd h
  refine R_q _ rfl (v_call (ok_ref5_product h_y2) (.cons (ov rfl) (.b rfl) <| .cons (ov rfl) (.b rfl) <| .nil)) ?_
  refine R_w _ _ rfl (w_alloc (row := [_, _, _]) 0 rfl tZ107 rfl tZ_107) ?_
  refine R_w _ _ rfl (w_alloc (row := [_, _, _]) 1 rfl tZ107 rfl tZ_107) ?_
  refine R_w _ _ rfl (w_store (ov rfl) (ov rfl) (cells_agg tA107 rfl) rfl rfl rfl (Nat.le_of_ble_eq_true rfl) (cell1_all rfl) rfl) ?_
  refine R_w _ _ rfl (w_store (ov rfl) (ov rfl) (cells_agg tA107 rfl) rfl rfl rfl (Nat.le_of_ble_eq_true rfl) (cell1_all rfl) rfl) ?_
  refine R_nil ?_
  refine T_keep (kc 9 rfl <| kc 10 rfl <| kn) rfl ?_
  refine T_seq (T_reg ?_)
  refine R_q _ rfl (v_fieldP (ov rfl) rfl rfl tF107_1) ?_
  refine R_q _ rfl (v_loadS (ov rfl) rfl rfl rfl tS101 rfl) ?_
  refine R_q _ rfl (v_fieldP (ov rfl) rfl rfl tF107_1) ?_
  refine R_q _ rfl (v_loadS (ov rfl) rfl rfl rfl tS101 rfl) ?_
  refine R_q _ rfl (v_gtr (ov rfl) (ov rfl)) ?_
  refine R_q _ rfl (v_move (ov rfl)) ?_
  refine R_q _ rfl (.guarded ((decide (y2.high < y.high)) == false) rfl rfl rfl rfl fun h => v_fieldP (ov rfl) rfl rfl tF107_1) ?_
  refine R_q _ rfl (.guarded ((decide (y2.high < y.high)) == false) rfl rfl rfl rfl fun h => v_loadS (ow rfl h) rfl rfl rfl tS101 rfl) ?_
  refine R_q _ rfl (.guarded ((decide (y2.high < y.high)) == false) rfl rfl rfl rfl fun h => v_fieldP (ov rfl) rfl rfl tF107_1) ?_
  refine R_q _ rfl (.guarded ((decide (y2.high < y.high)) == false) rfl rfl rfl rfl fun h => v_loadS (ow rfl h) rfl rfl rfl tS101 rfl) ?_
  refine R_q _ rfl (.guarded ((decide (y2.high < y.high)) == false) rfl rfl rfl rfl fun h => v_eql (ow rfl h) (ow rfl h)) ?_
  refine R_q _ rfl (.guarded ((decide (y2.high < y.high)) == false) rfl rfl rfl rfl fun h => v_move (ow rfl h)) ?_
  refine R_q _ rfl (.guarded2 (((decide (y2.high < y.high)) == false) && ((decide (y.high = y2.high)) == true)) rfl rfl rfl rfl fun h => v_fieldP (ov rfl) rfl rfl tF107_2) ?_
  refine R_q _ rfl (.guarded2 (((decide (y2.high < y.high)) == false) && ((decide (y.high = y2.high)) == true)) rfl rfl rfl rfl fun h => v_loadS (ow rfl h) rfl rfl rfl tS101 rfl) ?_
  refine R_q _ rfl (.guarded2 (((decide (y2.high < y.high)) == false) && ((decide (y.high = y2.high)) == true)) rfl rfl rfl rfl fun h => v_fieldP (ov rfl) rfl rfl tF107_2) ?_
  refine R_q _ rfl (.guarded2 (((decide (y2.high < y.high)) == false) && ((decide (y.high = y2.high)) == true)) rfl rfl rfl rfl fun h => v_loadS (ow rfl h) rfl rfl rfl tS101 rfl) ?_
  refine R_q _ rfl (.guarded2 (((decide (y2.high < y.high)) == false) && ((decide (y.high = y2.high)) == true)) rfl rfl rfl rfl fun h => v_gtr (ow rfl h) (ow rfl h)) ?_
  refine R_q _ rfl (.guarded ((decide (y2.high < y.high)) == false) rfl rfl rfl rfl fun h => v_and (ow rfl h) (fun hp => ow rfl (gA h (gT hp)))) ?_
  refine R_q _ rfl (v_or (ov rfl) (fun hp => ow rfl (gF hp))) ?_
  refine R_q _ rfl (v_assign (ov rfl)) ?_
  refine R_nil ?_
  obtain rfl := rt (v := ((decide (y2.high < y.high)) || ((decide (y.high = y2.high)) && (decide (y2.low < y.low))))) h
  refine T_ret (retq ?_ (.one (.tmp rfl (Dat.view (.b rfl)))))
  rfl

theorem ok_ref5_gcd {a : Int} {b : Int} {r : Int} (h : ref5_gcd a b = some r) :
    CSpec Tryd.prog gl0 65 [.int .i64 a, .int .i64 b] (.int .i64 r) := by
  unfold ref5_gcd at h
  replace h := bnd0 h
  refine spec_of (by kernel_rfl) Tryd.func65 rfl rfl ?_
  intro w0 A
  refine T_seq (T_reg ?_)
  refine R_q _ rfl (v_assign (ov rfl)) ?_
  refine R_nil ?_
  refine T_joinG id (t1 fun a2 => ⟨[(0, .int .i64 a2)], []⟩) h (fun h => ?_) (fun j h => ?_)
  · skip
    refine T_block ?_
    obtain ⟨r1, hl1, ho1⟩ := bndL h
    refine T_loopG _ (t2 fun a3 b2 => ⟨[(0, .int .i64 a3), (1, .int .i64 b2)], []⟩) _ hl1 (Ent.sel [] (sd 0 rfl rfl <| sd 1 rfl rfl <| sn) (.nil) rfl rfl) (fun n1 s1 h => ?_)
    obtain ⟨a3, b2⟩ := s1
    replace h := t2i h
    refine t2T ?_
    unfold ref5_gcd_L1 at h
    refine T_seq ?_
    refine T_seq (T_reg ?_)
    refine R_q _ rfl (v_move (ov rfl)) ?_
    refine R_q _ rfl (v_neq (ov rfl) (ov rfl)) ?_
    refine R_nil ?_
    refine T_keep (kc 0 rfl <| kc 1 rfl <| kc 6 rfl <| kn) rfl ?_
    refine T_if h rfl (fun b6 h => ?_) (fun b6 h => ?_)
    · skip
      refine T_skip ?_
      refine T_block ?_
      refine T_keep (kc 0 rfl <| kc 1 rfl <| kn) rfl ?_
      refine T_draw (cw := md0) (by kernel_rfl) ?_
      refine D_free 0 _ rfl (by kernel_rfl) rfl rfl (fun hp' => v_move (ov rfl)) ?_
      refine D_free 1 _ rfl (by kernel_rfl) rfl rfl (fun hp' => v_move (ov rfl)) ?_
      refine D_free 2 _ rfl (by kernel_rfl) rfl rfl (fun hp' => v_move (ov rfl)) ?_
      obtain ⟨q, h_q, h⟩ := bnd h
      refine D_free 3 _ rfl (by kernel_rfl) rfl rfl (fun hp' => v_remG (ov rfl) (ov rfl) h_q) ?_
      refine D_free 4 _ rfl (by kernel_rfl) rfl rfl (fun hp' => v_assign (ov rfl)) ?_
      refine D_free 5 _ rfl (by kernel_rfl) rfl rfl (fun hp' => v_assign (ov rfl)) ?_
      refine D_done (by kernel_rfl) ?_
      exact ⟨(b2, q), h, Ent.sel [] (sd 0 rfl rfl <| sd 1 rfl rfl <| sn) (.nil) rfl rfl⟩
    · skip
      refine T_exit ?_
      rw [lx h] at ho1
      replace h := ho1
      exact ⟨a3, h, Ent.sel [] (sd 0 rfl rfl <| sn) (.nil) rfl rfl⟩
  · skip
    obtain ⟨a2, rfl⟩ : ∃ x, x = j := ⟨_, rfl⟩
    replace h := t1i h
    refine t1T ?_
    refine T_seq (T_reg ?_)
    refine R_q _ rfl (v_move (ov rfl)) ?_
    refine R_q _ rfl (v_assign (ov rfl)) ?_
    refine R_nil ?_
    obtain rfl := rt (v := a2) h
    refine T_ret (retq ?_ (.one (.tmp rfl (Dat.view (.b rfl)))))
    rfl

theorem ok_ref5_Steepest {s : api_Series} {long : Int} {r : api_Ratio × Int × Int} (h : ref5_Steepest s long = some r) :
    CSpec Tryd.prog gl0 26 [.agg [.int .i64 s.Den, .sl 69 (List.map R69 s.Samples)], .int .i64 long] (.tuple [.agg [.int .i64 r.1.Num, .int .i64 r.1.Den], .int .i64 r.2.1, .int .i64 r.2.2]) := by
  unfold ref5_Steepest at h
  replace h := bnd0 h
  refine spec_of (by kernel_rfl) Tryd.func26 rfl rfl ?_
  intro w0 A
  refine T_seq (T_reg ?_)
  refine R_q _ rfl (v_boxD (cva (ov rfl)) rfl tZ_24 rfl) ?_
  refine R_w _ _ rfl (w_alloc (row := [_, _]) 0 rfl tZ46 rfl tZ_46) ?_
  refine R_q _ rfl (v_assign (ov rfl)) ?_
  refine R_q _ rfl (v_assign (ov rfl)) ?_
  refine R_nil ?_
  refine T_seq ?_
  refine T_keep (kc 1 rfl <| kc 2 rfl <| kc 4 rfl <| kn) rfl ?_
  refine T_seq (T_reg ?_)
  refine R_q _ rfl (v_loadA_r (ov rfl) tA24 rfl rfl) ?_
  obtain ⟨y, h_y, h⟩ := bnd h
  refine R_q _ rfl (v_call (ok_ref5_Check h_y) (.cons (ov rfl) (.aggB rfl) <| .nil)) ?_
  refine R_q _ rfl (v_assign (ov rfl)) ?_
  refine R_nil ?_
  refine T_keep (kc 1 rfl <| kc 2 rfl <| kc 4 rfl <| kc 7 rfl <| kn) rfl ?_
  refine T_seq (T_reg ?_)
  refine R_q _ rfl (v_move (ov rfl)) ?_
  refine R_q _ rfl (v_neq (ov rfl) (ov rfl)) ?_
  refine R_nil ?_
  refine T_keep (kc 1 rfl <| kc 2 rfl <| kc 4 rfl <| kc 7 rfl <| kc 19 rfl <| kn) rfl ?_
  refine T_if h rfl (fun b19 h => ?_) (fun b19 h => ?_)
  · skip
    refine T_keep (kc 4 rfl <| kc 7 rfl <| kn) rfl ?_
    refine T_seq (T_reg ?_)
    refine R_q _ rfl (v_build (ys := [_, _]) tPL46 tHA46 tZ46 (.nil) rfl) ?_
    refine R_q _ rfl (v_move (ov rfl)) ?_
    refine R_w _ _ rfl (w_store (ov rfl) (ov rfl) (cells_agg tA46 rfl) rfl rfl rfl (Nat.le_of_ble_eq_true rfl) (cell1_all rfl) rfl) ?_
    refine R_q _ rfl (v_assign (ov rfl)) ?_
    refine R_q _ rfl (v_assign (ov rfl)) ?_
    refine R_nil ?_
    obtain rfl := rt (v := ((api_Ratio.mk 0 0), 0, y)) h
    refine T_ret (retq ?_ (.three (.agg rfl rfl rfl rfl tA46 rfl rfl (pwB rfl)) (.tmp rfl (Dat.view (.b rfl))) (.tmp rfl (Dat.view (.b rfl)))))
    rfl
  · skip
    refine T_skip ?_
    refine T_seq ?_
    refine T_keep (kc 1 rfl <| kc 2 rfl <| kc 4 rfl <| kn) rfl ?_
    refine T_seq (T_reg ?_)
    refine R_q _ rfl (v_move (ov rfl)) ?_
    obtain ⟨y2, h_y2, h⟩ := bnd h
    refine R_q _ rfl (v_call (ok_ref5_outside h_y2) (.cons (ov rfl) (.b rfl) <| .cons (ov rfl) (.b rfl) <| .cons (ov rfl) (.b rfl) <| .nil)) ?_
    refine R_nil ?_
    refine T_keep (kc 1 rfl <| kc 2 rfl <| kc 4 rfl <| kc 23 rfl <| kn) rfl ?_
    refine T_if h rfl (fun b23 h => ?_) (fun b23 h => ?_)
    · skip
      refine T_keep (kc 4 rfl <| kn) rfl ?_
      refine T_seq (T_reg ?_)
      refine R_q _ rfl (v_build (ys := [_, _]) tPL46 tHA46 tZ46 (.nil) rfl) ?_
      refine R_w _ _ rfl (w_store (ov rfl) (ov rfl) (cells_agg tA46 rfl) rfl rfl rfl (Nat.le_of_ble_eq_true rfl) (cell1_all rfl) rfl) ?_
      refine R_q _ rfl (v_assign (ov rfl)) ?_
      refine R_q _ rfl (v_assign (ov rfl)) ?_
      refine R_nil ?_
      obtain rfl := rt (v := ((api_Ratio.mk 0 0), 0, 9)) h
      refine T_ret (retq ?_ (.three (.agg rfl rfl rfl rfl tA46 rfl rfl (pwB rfl)) (.tmp rfl (Dat.view (.b rfl))) (.tmp rfl (Dat.view (.b rfl)))))
      rfl
    · skip
      refine T_skip ?_
      refine T_keep (kc 1 rfl <| kc 2 rfl <| kc 4 rfl <| kn) rfl ?_
      refine T_seq (T_reg ?_)
      refine R_q _ rfl (v_loadA_r (ov rfl) tA24 rfl rfl) ?_
      obtain ⟨y3, h_y3, h⟩ := bnd h
      refine R_q _ rfl (v_call (ok_ref5_Solids h_y3) (.cons (ov rfl) (.aggB rfl) <| .nil)) ?_
      refine R_q _ rfl (v_assign (ov rfl)) ?_
      refine R_nil ?_
      refine T_keep (kc 1 rfl <| kc 2 rfl <| kc 4 rfl <| kc 8 rfl <| kn) rfl ?_
      refine T_seq (T_reg ?_)
      refine R_q _ rfl (v_assign (ov rfl)) ?_
      refine R_q _ rfl (v_assign (ov rfl)) ?_
      refine R_q _ rfl (v_assign (ov rfl)) ?_
      refine R_nil ?_
      refine T_joinG id (t3 fun num den at_ => ⟨[(4, .ptr 0 1 0 0), (9, .int .i64 num), (10, .int .i64 den), (11, .int .i64 at_)], [some ⟨46, [[.int .i64 0, .int .i64 0]]⟩]⟩) h (fun h => ?_) (fun j h => ?_)
      · skip
        refine T_seq (T_reg ?_)
        refine R_q _ rfl (v_assign (ov rfl)) ?_
        refine R_nil ?_
        refine T_block ?_
        obtain ⟨r1, hl1, ho1⟩ := bndL h
        refine T_loopG _ (t4 fun num2 den2 at_2 i => ⟨[(1, .int .i64 long), (2, .rp [.int .i64 s.Den, .sl 69 (List.map R69 s.Samples)] 0), (4, .ptr 0 1 0 0), (8, .sl 3 (List.map R3 y3)), (9, .int .i64 num2), (10, .int .i64 den2), (11, .int .i64 at_2), (12, .int .i64 i)], [some ⟨46, [[.int .i64 0, .int .i64 0]]⟩]⟩) _ hl1 (Ent.sel [some 0] (sd 1 rfl rfl <| sd 2 rfl rfl <| sr 4 rfl (.ptr _ _ _ rfl) <| sd 8 rfl rfl <| sd 9 rfl rfl <| sd 10 rfl rfl <| sd 11 rfl rfl <| sd 12 rfl rfl <| sn) (.cons rfl (ro1 (by exact tZ_46.symm) (rld rfl)) <| .nil) rfl rfl) (fun n1 s1 h => ?_)
        obtain ⟨num2, den2, at_2, i⟩ := s1
        replace h := t4i h
        refine t4T ?_
        unfold ref5_Steepest_L1 at h
        refine T_seq ?_
        refine T_seq (T_reg ?_)
        refine R_q _ rfl (v_move (ov rfl)) ?_
        refine R_q _ rfl (v_move (ov rfl)) ?_
        refine R_q _ rfl (v_len (slv_sl (ov rfl) tZ_3) tL33 (len_map _ _)) ?_
        refine R_q _ rfl (v_lss (ov rfl) (ov rfl)) ?_
        refine R_nil ?_
        refine T_keep (kc 1 rfl <| kc 2 rfl <| kc 4 rfl <| kc 8 rfl <| kc 9 rfl <| kc 10 rfl <| kc 11 rfl <| kc 12 rfl <| kc 30 rfl <| kn) rfl ?_
        refine T_if h rfl (fun b30 h => ?_) (fun b30 h => ?_)
        · skip
          refine T_skip ?_
          refine T_joinG id (t3 fun num3 den3 at_3 => ⟨[(1, .int .i64 long), (2, .rp [.int .i64 s.Den, .sl 69 (List.map R69 s.Samples)] 0), (4, .ptr 0 1 0 0), (8, .sl 3 (List.map R3 y3)), (9, .int .i64 num3), (10, .int .i64 den3), (11, .int .i64 at_3), (12, .int .i64 i)], [some ⟨46, [[.int .i64 0, .int .i64 0]]⟩]⟩) h (fun h => ?_) (fun j h => ?_)
          · skip
            refine T_block ?_
            refine T_keep (kc 1 rfl <| kc 2 rfl <| kc 4 rfl <| kc 8 rfl <| kc 9 rfl <| kc 10 rfl <| kc 11 rfl <| kc 12 rfl <| kn) rfl ?_
            refine T_seq (T_draw (cw := ⟨false, false, [], [33, 34, 38, 39, 40, 41, 42, 43, 46, 47, 48, 49], []⟩) (by kernel_rfl) ?_)
            refine D_free 0 _ rfl (by kernel_rfl) rfl rfl (fun hp' => v_fieldR (ov rfl) tF24_1) ?_
            refine D_free 1 _ rfl (by kernel_rfl) rfl rfl (fun hp' => v_loadS_r (ov rfl) tS22 rfl) ?_
            refine D_free 2 _ rfl (by kernel_rfl) rfl rfl (fun hp' => v_move (ov rfl)) ?_
            refine D_free 3 _ rfl (by kernel_rfl) rfl rfl (fun hp' => v_move (ov rfl)) ?_
            refine D_free 4 _ rfl (by kernel_rfl) rfl rfl (fun hp' => v_sub (ov rfl) (ov rfl) rfl) ?_
            obtain ⟨x, h_x, h⟩ := bnd h
            refine D_free 5 _ rfl (by kernel_rfl) rfl rfl (fun hp' => v_ixSG (ov rfl) (ov rfl) tL33 h_x) ?_
            refine D_free 6 _ rfl (by kernel_rfl) rfl rfl (fun hp' => v_loadS_r (ov rfl) tS3 rfl) ?_
            obtain ⟨x2, h_x2, h⟩ := bnd h
            refine D_free 7 _ rfl (by kernel_rfl) rfl rfl (fun hp' => v_ixSG (ov rfl) (ov rfl) tL22 h_x2) ?_
            refine D_free 8 _ rfl (by kernel_rfl) rfl rfl (fun hp' => v_loadA_r (ov rfl) tA69 rfl rfl) ?_
            refine D_free 9 _ rfl (by kernel_rfl) rfl rfl (fun hp' => v_fieldR (ov rfl) tF24_1) ?_
            refine D_free 10 _ rfl (by kernel_rfl) rfl rfl (fun hp' => v_loadS_r (ov rfl) tS22 rfl) ?_
            refine D_free 11 _ rfl (by kernel_rfl) rfl rfl (fun hp' => v_move (ov rfl)) ?_
            refine D_free 12 _ rfl (by kernel_rfl) rfl rfl (fun hp' => v_move (ov rfl)) ?_
            obtain ⟨x3, h_x3, h⟩ := bnd h
            refine D_free 13 _ rfl (by kernel_rfl) rfl rfl (fun hp' => v_ixSG (ov rfl) (ov rfl) tL33 h_x3) ?_
            refine D_free 14 _ rfl (by kernel_rfl) rfl rfl (fun hp' => v_loadS_r (ov rfl) tS3 rfl) ?_
            obtain ⟨x4, h_x4, h⟩ := bnd h
            refine D_free 15 _ rfl (by kernel_rfl) rfl rfl (fun hp' => v_ixSG (ov rfl) (ov rfl) tL22 h_x4) ?_
            refine D_free 16 _ rfl (by kernel_rfl) rfl rfl (fun hp' => v_loadA_r (ov rfl) tA69 rfl rfl) ?_
            refine D_two 17 18 rfl rfl (by kernel_rfl) rfl rfl rfl rfl (fun _ => Ext.app) (fun _ => Ext.app) (fun h => by cases h) (fun h => by cases h) (w_alloc (row := [_, _, _]) 1 rfl tZ69 rfl tZ_69) (w_alloc (row := [_, _, _]) 1 rfl tZ69 rfl tZ_69) ?_ ?_
            · skip
              refine D_one 18 _ _ rfl (by kernel_rfl) rfl rfl (fun _ => Ext.app) (fun h => by cases h) (w_alloc (row := [_, _, _]) 2 rfl tZ69 rfl tZ_69) ?_
              refine D_one 19 _ _ rfl (by kernel_rfl) rfl rfl (fun h => by cases h) (fun h => by cases h) (w_store (ov rfl) (ov rfl) (cells_agg tA69 rfl) rfl rfl rfl (Nat.le_of_ble_eq_true rfl) (cell1_all rfl) rfl) ?_
              refine D_one 20 _ _ rfl (by kernel_rfl) rfl rfl (fun h => by cases h) (fun h => by cases h) (w_store (ov rfl) (ov rfl) (cells_agg tA69 rfl) rfl rfl rfl (Nat.le_of_ble_eq_true rfl) (cell1_all rfl) rfl) ?_
              refine D_done (by kernel_rfl) ?_
              refine T_seq ?_
              refine T_keep (kc 1 rfl <| kc 2 rfl <| kc 4 rfl <| kc 8 rfl <| kc 9 rfl <| kc 10 rfl <| kc 11 rfl <| kc 12 rfl <| kc 13 rfl <| kc 14 rfl <| kn) rfl ?_
              refine T_seq (T_reg ?_)
              refine R_q _ rfl (v_fieldP (ov rfl) rfl rfl tF69_0) ?_
              refine R_q _ rfl (v_loadS (ov rfl) rfl rfl rfl tS3 rfl) ?_
              refine R_q _ rfl (v_fieldP (ov rfl) rfl rfl tF69_0) ?_
              refine R_q _ rfl (v_loadS (ov rfl) rfl rfl rfl tS3 rfl) ?_
              refine R_q _ rfl (v_sub (ov rfl) (ov rfl) rfl) ?_
              refine R_q _ rfl (v_move (ov rfl)) ?_
              refine R_q _ rfl (v_gtr (ov rfl) (ov rfl)) ?_
              refine R_nil ?_
              refine T_keep (kc 1 rfl <| kc 2 rfl <| kc 4 rfl <| kc 8 rfl <| kc 9 rfl <| kc 10 rfl <| kc 11 rfl <| kc 12 rfl <| kc 13 rfl <| kc 14 rfl <| kc 56 rfl <| kn) rfl ?_
              refine T_if h rfl (fun b56 h => ?_) (fun b56 h => ?_)
              · skip
                refine T_exit ?_
                exact ⟨(num2, den2, at_2), h, Ent.sel [some 0] (sd 1 rfl rfl <| sd 2 rfl rfl <| sr 4 rfl (.ptr _ _ _ rfl) <| sd 8 rfl rfl <| sd 9 rfl rfl <| sd 10 rfl rfl <| sd 11 rfl rfl <| sd 12 rfl rfl <| sn) (.cons rfl (ro1 (by exact tZ_46.symm) (rld rfl)) <| .nil) rfl rfl⟩
              · skip
                refine T_skip ?_
                refine T_keep (kc 1 rfl <| kc 2 rfl <| kc 4 rfl <| kc 8 rfl <| kc 9 rfl <| kc 10 rfl <| kc 11 rfl <| kc 12 rfl <| kc 13 rfl <| kc 14 rfl <| kn) rfl ?_
                refine T_seq (T_draw (cw := md0) (by kernel_rfl) ?_)
                refine D_free 0 _ rfl (by kernel_rfl) rfl rfl (fun hp' => v_move (ov rfl)) ?_
                refine D_free 1 _ rfl (by kernel_rfl) rfl rfl (fun hp' => v_eql (ov rfl) (ov rfl)) ?_
                refine D_free 2 _ rfl (by kernel_rfl) rfl rfl (fun hp' => v_move (ov rfl)) ?_
                refine D_read 3 _ rfl (by kernel_rfl) rfl rfl rfl ExtW.refl (fun hp' hx => .guarded ((decide (den2 = 0)) == false) rfl rfl rfl rfl fun h => v_fieldP (ov rfl) (hx.get rfl rfl) rfl tF69_1) ?_
                refine D_read 4 _ rfl (by kernel_rfl) rfl rfl rfl ExtW.refl (fun hp' hx => .guarded ((decide (den2 = 0)) == false) rfl rfl rfl rfl fun h => v_loadS (ow rfl h) (hx.get rfl rfl) rfl rfl tS3 rfl) ?_
                refine D_read 5 _ rfl (by kernel_rfl) rfl rfl rfl ExtW.refl (fun hp' hx => .guarded ((decide (den2 = 0)) == false) rfl rfl rfl rfl fun h => v_fieldP (ov rfl) (hx.get rfl rfl) rfl tF69_1) ?_
                refine D_read 6 _ rfl (by kernel_rfl) rfl rfl rfl ExtW.refl (fun hp' hx => .guarded ((decide (den2 = 0)) == false) rfl rfl rfl rfl fun h => v_loadS (ow rfl h) (hx.get rfl rfl) rfl rfl tS3 rfl) ?_
                obtain ⟨y4, h_y4, h⟩ := bnd h
                refine D_read 7 _ rfl (by kernel_rfl) rfl rfl rfl ExtW.refl (fun hp' hx => .guarded ((decide (den2 = 0)) == false) rfl rfl rfl rfl fun h => v_call (ok_ref5_apart (gdT h_y4 h)) (.cons (ow rfl h) (.b rfl) <| .cons (ow rfl h) (.b rfl) <| .nil)) ?_
                refine D_read 8 _ rfl (by kernel_rfl) rfl rfl rfl ExtW.refl (fun hp' hx => .guarded ((decide (den2 = 0)) == false) rfl rfl rfl rfl fun h => v_fieldP (ov rfl) (hx.get rfl rfl) rfl tF69_0) ?_
                refine D_read 9 _ rfl (by kernel_rfl) rfl rfl rfl ExtW.refl (fun hp' hx => .guarded ((decide (den2 = 0)) == false) rfl rfl rfl rfl fun h => v_loadS (ow rfl h) (hx.get rfl rfl) rfl rfl tS3 rfl) ?_
                refine D_read 10 _ rfl (by kernel_rfl) rfl rfl rfl ExtW.refl (fun hp' hx => .guarded ((decide (den2 = 0)) == false) rfl rfl rfl rfl fun h => v_fieldP (ov rfl) (hx.get rfl rfl) rfl tF69_0) ?_
                refine D_read 11 _ rfl (by kernel_rfl) rfl rfl rfl ExtW.refl (fun hp' hx => .guarded ((decide (den2 = 0)) == false) rfl rfl rfl rfl fun h => v_loadS (ow rfl h) (hx.get rfl rfl) rfl rfl tS3 rfl) ?_
                refine D_free 12 _ rfl (by kernel_rfl) rfl rfl (fun hp' => .guarded ((decide (den2 = 0)) == false) rfl rfl rfl rfl fun h => v_sub (ow rfl h) (ow rfl h) rfl) ?_
                refine D_free 13 _ rfl (by kernel_rfl) rfl rfl (fun hp' => .guarded ((decide (den2 = 0)) == false) rfl rfl rfl rfl fun h => v_move (ov rfl)) ?_
                refine D_free 14 _ rfl (by kernel_rfl) rfl rfl (fun hp' => .guarded ((decide (den2 = 0)) == false) rfl rfl rfl rfl fun h => v_move (ov rfl)) ?_
                obtain ⟨y5, h_y5, h⟩ := bnd h
                refine D_read 15 _ rfl (by kernel_rfl) rfl rfl rfl ExtW.refl (fun hp' hx => .guarded ((decide (den2 = 0)) == false) rfl rfl rfl rfl fun h => v_call (ok_ref5_steeper (gdT h_y5 h)) (.cons (ow rfl h) (.b rfl) <| .cons (ow rfl h) (.b rfl) <| .cons (ow rfl h) (.b rfl) <| .cons (ow rfl h) (.b rfl) <| .nil)) ?_
                refine D_free 16 _ rfl (by kernel_rfl) rfl rfl (fun hp' => v_or (ov rfl) (fun hp => ow rfl (gF hp))) ?_
                refine D_done (by kernel_rfl) ?_
                refine T_keep (kc 1 rfl <| kc 2 rfl <| kc 4 rfl <| kc 8 rfl <| kc 9 rfl <| kc 10 rfl <| kc 11 rfl <| kc 12 rfl <| kc 13 rfl <| kc 14 rfl <| kc 73 rfl <| kn) rfl ?_
                refine T_if h rfl (fun b73 h => ?_) (fun b73 h => ?_)
                · skip
                  refine T_keep (kc 1 rfl <| kc 2 rfl <| kc 4 rfl <| kc 8 rfl <| kc 9 rfl <| kc 10 rfl <| kc 11 rfl <| kc 12 rfl <| kc 13 rfl <| kc 14 rfl <| kn) rfl ?_
                  refine T_draw (cw := md0) (by kernel_rfl) ?_
                  refine D_read 0 _ rfl (by kernel_rfl) rfl rfl rfl ExtW.refl (fun hp' hx => v_fieldP (ov rfl) (hx.get rfl rfl) rfl tF69_1) ?_
                  refine D_read 1 _ rfl (by kernel_rfl) rfl rfl rfl ExtW.refl (fun hp' hx => v_loadS (ov rfl) (hx.get rfl rfl) rfl rfl tS3 rfl) ?_
                  refine D_read 2 _ rfl (by kernel_rfl) rfl rfl rfl ExtW.refl (fun hp' hx => v_fieldP (ov rfl) (hx.get rfl rfl) rfl tF69_1) ?_
                  refine D_read 3 _ rfl (by kernel_rfl) rfl rfl rfl ExtW.refl (fun hp' hx => v_loadS (ov rfl) (hx.get rfl rfl) rfl rfl tS3 rfl) ?_
                  obtain ⟨y6, h_y6, h⟩ := bnd h
                  refine D_read 4 _ rfl (by kernel_rfl) rfl rfl rfl ExtW.refl (fun hp' hx => v_call (ok_ref5_apart h_y6) (.cons (ov rfl) (.b rfl) <| .cons (ov rfl) (.b rfl) <| .nil)) ?_
                  refine D_read 5 _ rfl (by kernel_rfl) rfl rfl rfl ExtW.refl (fun hp' hx => v_fieldP (ov rfl) (hx.get rfl rfl) rfl tF69_0) ?_
                  refine D_read 6 _ rfl (by kernel_rfl) rfl rfl rfl ExtW.refl (fun hp' hx => v_loadS (ov rfl) (hx.get rfl rfl) rfl rfl tS3 rfl) ?_
                  refine D_read 7 _ rfl (by kernel_rfl) rfl rfl rfl ExtW.refl (fun hp' hx => v_fieldP (ov rfl) (hx.get rfl rfl) rfl tF69_0) ?_
                  refine D_read 8 _ rfl (by kernel_rfl) rfl rfl rfl ExtW.refl (fun hp' hx => v_loadS (ov rfl) (hx.get rfl rfl) rfl rfl tS3 rfl) ?_
                  refine D_free 9 _ rfl (by kernel_rfl) rfl rfl (fun hp' => v_sub (ov rfl) (ov rfl) rfl) ?_
                  refine D_free 10 _ rfl (by kernel_rfl) rfl rfl (fun hp' => v_move (ov rfl)) ?_
                  refine D_free 11 _ rfl (by kernel_rfl) rfl rfl (fun hp' => v_move (ov rfl)) ?_
                  obtain ⟨x5, h_x5, h⟩ := bnd h
                  refine D_read 12 _ rfl (by kernel_rfl) rfl rfl rfl ExtW.refl (fun hp' hx => v_ixSG (ov rfl) (ov rfl) tL33 h_x5) ?_
                  refine D_read 13 _ rfl (by kernel_rfl) rfl rfl rfl ExtW.refl (fun hp' hx => v_loadS_r (ov rfl) tS3 rfl) ?_
                  refine D_free 14 _ rfl (by kernel_rfl) rfl rfl (fun hp' => v_assign (ov rfl)) ?_
                  refine D_free 15 _ rfl (by kernel_rfl) rfl rfl (fun hp' => v_assign (ov rfl)) ?_
                  refine D_free 16 _ rfl (by kernel_rfl) rfl rfl (fun hp' => v_assign (ov rfl)) ?_
                  refine D_done (by kernel_rfl) ?_
                  exact ⟨(y6, (i64 (x4.At - x2.At)), x5), h, Ent.sel [some 0] (sd 1 rfl rfl <| sd 2 rfl rfl <| sr 4 rfl (.ptr _ _ _ rfl) <| sd 8 rfl rfl <| sd 9 rfl rfl <| sd 10 rfl rfl <| sd 11 rfl rfl <| sd 12 rfl rfl <| sn) (.cons rfl (ro1 (by exact tZ_46.symm) (rld rfl)) <| .nil) rfl rfl⟩
                · skip
                  refine T_skip ?_
                  exact ⟨(num2, den2, at_2), h, Ent.sel [some 0] (sd 1 rfl rfl <| sd 2 rfl rfl <| sr 4 rfl (.ptr _ _ _ rfl) <| sd 8 rfl rfl <| sd 9 rfl rfl <| sd 10 rfl rfl <| sd 11 rfl rfl <| sd 12 rfl rfl <| sn) (.cons rfl (ro1 (by exact tZ_46.symm) (rld rfl)) <| .nil) rfl rfl⟩
            · skip
              refine D_one 17 _ _ rfl (by kernel_rfl) rfl rfl (fun _ => Ext.app) (fun h => by cases h) (w_alloc (row := [_, _, _]) 2 rfl tZ69 rfl tZ_69) ?_
              refine D_one 19 _ _ rfl (by kernel_rfl) rfl rfl (fun h => by cases h) (fun h => by cases h) (w_store (ov rfl) (ov rfl) (cells_agg tA69 rfl) rfl rfl rfl (Nat.le_of_ble_eq_true rfl) (cell1_all rfl) rfl) ?_
              refine D_one 20 _ _ rfl (by kernel_rfl) rfl rfl (fun h => by cases h) (fun h => by cases h) (w_store (ov rfl) (ov rfl) (cells_agg tA69 rfl) rfl rfl rfl (Nat.le_of_ble_eq_true rfl) (cell1_all rfl) rfl) ?_
              refine D_done (by kernel_rfl) ?_
              refine T_seq ?_
              refine T_keep (kc 1 rfl <| kc 2 rfl <| kc 4 rfl <| kc 8 rfl <| kc 9 rfl <| kc 10 rfl <| kc 11 rfl <| kc 12 rfl <| kc 13 rfl <| kc 14 rfl <| kn) rfl ?_
              refine T_seq (T_reg ?_)
              refine R_q _ rfl (v_fieldP (ov rfl) rfl rfl tF69_0) ?_
              refine R_q _ rfl (v_loadS (ov rfl) rfl rfl rfl tS3 rfl) ?_
              refine R_q _ rfl (v_fieldP (ov rfl) rfl rfl tF69_0) ?_
              refine R_q _ rfl (v_loadS (ov rfl) rfl rfl rfl tS3 rfl) ?_
              refine R_q _ rfl (v_sub (ov rfl) (ov rfl) rfl) ?_
              refine R_q _ rfl (v_move (ov rfl)) ?_
              refine R_q _ rfl (v_gtr (ov rfl) (ov rfl)) ?_
              refine R_nil ?_
              refine T_keep (kc 1 rfl <| kc 2 rfl <| kc 4 rfl <| kc 8 rfl <| kc 9 rfl <| kc 10 rfl <| kc 11 rfl <| kc 12 rfl <| kc 13 rfl <| kc 14 rfl <| kc 56 rfl <| kn) rfl ?_
              refine T_if h rfl (fun b56 h => ?_) (fun b56 h => ?_)
              · skip
                refine T_exit ?_
                exact ⟨(num2, den2, at_2), h, Ent.sel [some 0] (sd 1 rfl rfl <| sd 2 rfl rfl <| sr 4 rfl (.ptr _ _ _ rfl) <| sd 8 rfl rfl <| sd 9 rfl rfl <| sd 10 rfl rfl <| sd 11 rfl rfl <| sd 12 rfl rfl <| sn) (.cons rfl (ro1 (by exact tZ_46.symm) (rld rfl)) <| .nil) rfl rfl⟩
              · skip
                refine T_skip ?_
                refine T_keep (kc 1 rfl <| kc 2 rfl <| kc 4 rfl <| kc 8 rfl <| kc 9 rfl <| kc 10 rfl <| kc 11 rfl <| kc 12 rfl <| kc 13 rfl <| kc 14 rfl <| kn) rfl ?_
                refine T_seq (T_draw (cw := md0) (by kernel_rfl) ?_)
                refine D_free 0 _ rfl (by kernel_rfl) rfl rfl (fun hp' => v_move (ov rfl)) ?_
                refine D_free 1 _ rfl (by kernel_rfl) rfl rfl (fun hp' => v_eql (ov rfl) (ov rfl)) ?_
                refine D_free 2 _ rfl (by kernel_rfl) rfl rfl (fun hp' => v_move (ov rfl)) ?_
                refine D_read 3 _ rfl (by kernel_rfl) rfl rfl rfl ExtW.refl (fun hp' hx => .guarded ((decide (den2 = 0)) == false) rfl rfl rfl rfl fun h => v_fieldP (ov rfl) (hx.get rfl rfl) rfl tF69_1) ?_
                refine D_read 4 _ rfl (by kernel_rfl) rfl rfl rfl ExtW.refl (fun hp' hx => .guarded ((decide (den2 = 0)) == false) rfl rfl rfl rfl fun h => v_loadS (ow rfl h) (hx.get rfl rfl) rfl rfl tS3 rfl) ?_
                refine D_read 5 _ rfl (by kernel_rfl) rfl rfl rfl ExtW.refl (fun hp' hx => .guarded ((decide (den2 = 0)) == false) rfl rfl rfl rfl fun h => v_fieldP (ov rfl) (hx.get rfl rfl) rfl tF69_1) ?_
                refine D_read 6 _ rfl (by kernel_rfl) rfl rfl rfl ExtW.refl (fun hp' hx => .guarded ((decide (den2 = 0)) == false) rfl rfl rfl rfl fun h => v_loadS (ow rfl h) (hx.get rfl rfl) rfl rfl tS3 rfl) ?_
                obtain ⟨y4, h_y4, h⟩ := bnd h
                refine D_read 7 _ rfl (by kernel_rfl) rfl rfl rfl ExtW.refl (fun hp' hx => .guarded ((decide (den2 = 0)) == false) rfl rfl rfl rfl fun h => v_call (ok_ref5_apart (gdT h_y4 h)) (.cons (ow rfl h) (.b rfl) <| .cons (ow rfl h) (.b rfl) <| .nil)) ?_
                refine D_read 8 _ rfl (by kernel_rfl) rfl rfl rfl ExtW.refl (fun hp' hx => .guarded ((decide (den2 = 0)) == false) rfl rfl rfl rfl fun h => v_fieldP (ov rfl) (hx.get rfl rfl) rfl tF69_0) ?_
                refine D_read 9 _ rfl (by kernel_rfl) rfl rfl rfl ExtW.refl (fun hp' hx => .guarded ((decide (den2 = 0)) == false) rfl rfl rfl rfl fun h => v_loadS (ow rfl h) (hx.get rfl rfl) rfl rfl tS3 rfl) ?_
                refine D_read 10 _ rfl (by kernel_rfl) rfl rfl rfl ExtW.refl (fun hp' hx => .guarded ((decide (den2 = 0)) == false) rfl rfl rfl rfl fun h => v_fieldP (ov rfl) (hx.get rfl rfl) rfl tF69_0) ?_
                refine D_read 11 _ rfl (by kernel_rfl) rfl rfl rfl ExtW.refl (fun hp' hx => .guarded ((decide (den2 = 0)) == false) rfl rfl rfl rfl fun h => v_loadS (ow rfl h) (hx.get rfl rfl) rfl rfl tS3 rfl) ?_
                refine D_free 12 _ rfl (by kernel_rfl) rfl rfl (fun hp' => .guarded ((decide (den2 = 0)) == false) rfl rfl rfl rfl fun h => v_sub (ow rfl h) (ow rfl h) rfl) ?_
                refine D_free 13 _ rfl (by kernel_rfl) rfl rfl (fun hp' => .guarded ((decide (den2 = 0)) == false) rfl rfl rfl rfl fun h => v_move (ov rfl)) ?_
                refine D_free 14 _ rfl (by kernel_rfl) rfl rfl (fun hp' => .guarded ((decide (den2 = 0)) == false) rfl rfl rfl rfl fun h => v_move (ov rfl)) ?_
                obtain ⟨y5, h_y5, h⟩ := bnd h
                refine D_read 15 _ rfl (by kernel_rfl) rfl rfl rfl ExtW.refl (fun hp' hx => .guarded ((decide (den2 = 0)) == false) rfl rfl rfl rfl fun h => v_call (ok_ref5_steeper (gdT h_y5 h)) (.cons (ow rfl h) (.b rfl) <| .cons (ow rfl h) (.b rfl) <| .cons (ow rfl h) (.b rfl) <| .cons (ow rfl h) (.b rfl) <| .nil)) ?_
                refine D_free 16 _ rfl (by kernel_rfl) rfl rfl (fun hp' => v_or (ov rfl) (fun hp => ow rfl (gF hp))) ?_
                refine D_done (by kernel_rfl) ?_
                refine T_keep (kc 1 rfl <| kc 2 rfl <| kc 4 rfl <| kc 8 rfl <| kc 9 rfl <| kc 10 rfl <| kc 11 rfl <| kc 12 rfl <| kc 13 rfl <| kc 14 rfl <| kc 73 rfl <| kn) rfl ?_
                refine T_if h rfl (fun b73 h => ?_) (fun b73 h => ?_)
                · skip
                  refine T_keep (kc 1 rfl <| kc 2 rfl <| kc 4 rfl <| kc 8 rfl <| kc 9 rfl <| kc 10 rfl <| kc 11 rfl <| kc 12 rfl <| kc 13 rfl <| kc 14 rfl <| kn) rfl ?_
                  refine T_draw (cw := md0) (by kernel_rfl) ?_
                  refine D_read 0 _ rfl (by kernel_rfl) rfl rfl rfl ExtW.refl (fun hp' hx => v_fieldP (ov rfl) (hx.get rfl rfl) rfl tF69_1) ?_
                  refine D_read 1 _ rfl (by kernel_rfl) rfl rfl rfl ExtW.refl (fun hp' hx => v_loadS (ov rfl) (hx.get rfl rfl) rfl rfl tS3 rfl) ?_
                  refine D_read 2 _ rfl (by kernel_rfl) rfl rfl rfl ExtW.refl (fun hp' hx => v_fieldP (ov rfl) (hx.get rfl rfl) rfl tF69_1) ?_
                  refine D_read 3 _ rfl (by kernel_rfl) rfl rfl rfl ExtW.refl (fun hp' hx => v_loadS (ov rfl) (hx.get rfl rfl) rfl rfl tS3 rfl) ?_
                  obtain ⟨y6, h_y6, h⟩ := bnd h
                  refine D_read 4 _ rfl (by kernel_rfl) rfl rfl rfl ExtW.refl (fun hp' hx => v_call (ok_ref5_apart h_y6) (.cons (ov rfl) (.b rfl) <| .cons (ov rfl) (.b rfl) <| .nil)) ?_
                  refine D_read 5 _ rfl (by kernel_rfl) rfl rfl rfl ExtW.refl (fun hp' hx => v_fieldP (ov rfl) (hx.get rfl rfl) rfl tF69_0) ?_
                  refine D_read 6 _ rfl (by kernel_rfl) rfl rfl rfl ExtW.refl (fun hp' hx => v_loadS (ov rfl) (hx.get rfl rfl) rfl rfl tS3 rfl) ?_
                  refine D_read 7 _ rfl (by kernel_rfl) rfl rfl rfl ExtW.refl (fun hp' hx => v_fieldP (ov rfl) (hx.get rfl rfl) rfl tF69_0) ?_
                  refine D_read 8 _ rfl (by kernel_rfl) rfl rfl rfl ExtW.refl (fun hp' hx => v_loadS (ov rfl) (hx.get rfl rfl) rfl rfl tS3 rfl) ?_
                  refine D_free 9 _ rfl (by kernel_rfl) rfl rfl (fun hp' => v_sub (ov rfl) (ov rfl) rfl) ?_
                  refine D_free 10 _ rfl (by kernel_rfl) rfl rfl (fun hp' => v_move (ov rfl)) ?_
                  refine D_free 11 _ rfl (by kernel_rfl) rfl rfl (fun hp' => v_move (ov rfl)) ?_
                  obtain ⟨x5, h_x5, h⟩ := bnd h
                  refine D_read 12 _ rfl (by kernel_rfl) rfl rfl rfl ExtW.refl (fun hp' hx => v_ixSG (ov rfl) (ov rfl) tL33 h_x5) ?_
                  refine D_read 13 _ rfl (by kernel_rfl) rfl rfl rfl ExtW.refl (fun hp' hx => v_loadS_r (ov rfl) tS3 rfl) ?_
                  refine D_free 14 _ rfl (by kernel_rfl) rfl rfl (fun hp' => v_assign (ov rfl)) ?_
                  refine D_free 15 _ rfl (by kernel_rfl) rfl rfl (fun hp' => v_assign (ov rfl)) ?_
                  refine D_free 16 _ rfl (by kernel_rfl) rfl rfl (fun hp' => v_assign (ov rfl)) ?_
                  refine D_done (by kernel_rfl) ?_
                  exact ⟨(y6, (i64 (x4.At - x2.At)), x5), h, Ent.sel [some 0] (sd 1 rfl rfl <| sd 2 rfl rfl <| sr 4 rfl (.ptr _ _ _ rfl) <| sd 8 rfl rfl <| sd 9 rfl rfl <| sd 10 rfl rfl <| sd 11 rfl rfl <| sd 12 rfl rfl <| sn) (.cons rfl (ro1 (by exact tZ_46.symm) (rld rfl)) <| .nil) rfl rfl⟩
                · skip
                  refine T_skip ?_
                  exact ⟨(num2, den2, at_2), h, Ent.sel [some 0] (sd 1 rfl rfl <| sd 2 rfl rfl <| sr 4 rfl (.ptr _ _ _ rfl) <| sd 8 rfl rfl <| sd 9 rfl rfl <| sd 10 rfl rfl <| sd 11 rfl rfl <| sd 12 rfl rfl <| sn) (.cons rfl (ro1 (by exact tZ_46.symm) (rld rfl)) <| .nil) rfl rfl⟩
          · skip
            obtain ⟨num3, den3, at_3⟩ := j
            replace h := t3i h
            refine t3T ?_
            refine T_reg ?_
            refine R_q _ rfl (v_move (ov rfl)) ?_
            refine R_q _ rfl (v_add (ov rfl) (ov rfl) rfl) ?_
            refine R_q _ rfl (v_assign (ov rfl)) ?_
            refine R_nil ?_
            exact ⟨(num3, den3, at_3, (i64 (i + 1))), h, Ent.sel [some 0] (sd 1 rfl rfl <| sd 2 rfl rfl <| sr 4 rfl (.ptr _ _ _ rfl) <| sd 8 rfl rfl <| sd 9 rfl rfl <| sd 10 rfl rfl <| sd 11 rfl rfl <| sd 12 rfl rfl <| sn) (.cons rfl (ro1 (by exact tZ_46.symm) (rld rfl)) <| .nil) rfl rfl⟩
        · skip
          refine T_exit ?_
          rw [lx h] at ho1
          replace h := ho1
          exact ⟨(num2, den2, at_2), h, Ent.sel [some 0] (sr 4 rfl (.ptr _ _ _ rfl) <| sd 9 rfl rfl <| sd 10 rfl rfl <| sd 11 rfl rfl <| sn) (.cons rfl (ro1 (by exact tZ_46.symm) (rld rfl)) <| .nil) rfl rfl⟩
      · skip
        obtain ⟨num, den, at_⟩ := j
        replace h := t3i h
        refine t3T ?_
        refine T_seq ?_
        refine T_seq (T_reg ?_)
        refine R_q _ rfl (v_move (ov rfl)) ?_
        refine R_q _ rfl (v_eql (ov rfl) (ov rfl)) ?_
        refine R_nil ?_
        refine T_keep (kc 4 rfl <| kc 9 rfl <| kc 10 rfl <| kc 11 rfl <| kc 89 rfl <| kn) rfl ?_
        refine T_if h rfl (fun b89 h => ?_) (fun b89 h => ?_)
        · skip
          refine T_keep (kc 4 rfl <| kn) rfl ?_
          refine T_seq (T_reg ?_)
          refine R_q _ rfl (v_build (ys := [_, _]) tPL46 tHA46 tZ46 (.nil) rfl) ?_
          refine R_w _ _ rfl (w_store (ov rfl) (ov rfl) (cells_agg tA46 rfl) rfl rfl rfl (Nat.le_of_ble_eq_true rfl) (cell1_all rfl) rfl) ?_
          refine R_q _ rfl (v_assign (ov rfl)) ?_
          refine R_q _ rfl (v_assign (ov rfl)) ?_
          refine R_nil ?_
          obtain rfl := rt (v := ((api_Ratio.mk 0 0), 0, 13)) h
          refine T_ret (retq ?_ (.three (.agg rfl rfl rfl rfl tA46 rfl rfl (pwB rfl)) (.tmp rfl (Dat.view (.b rfl))) (.tmp rfl (Dat.view (.b rfl)))))
          rfl
        · skip
          refine T_skip ?_
          refine T_keep (kc 4 rfl <| kc 9 rfl <| kc 10 rfl <| kc 11 rfl <| kn) rfl ?_
          refine T_seq (T_reg ?_)
          refine R_q _ rfl (v_move (ov rfl)) ?_
          refine R_q _ rfl (v_move (ov rfl)) ?_
          obtain ⟨y7, h_y7, h⟩ := bnd h
          refine R_q _ rfl (v_call (ok_ref5_gcd h_y7) (.cons (ov rfl) (.b rfl) <| .cons (ov rfl) (.b rfl) <| .nil)) ?_
          refine R_q _ rfl (v_assign (ov rfl)) ?_
          refine R_nil ?_
          refine T_keep (kc 4 rfl <| kc 9 rfl <| kc 10 rfl <| kc 11 rfl <| kc 15 rfl <| kn) rfl ?_
          refine T_seq (T_draw (cw := md0) (by kernel_rfl) ?_)
          refine D_free 0 _ rfl (by kernel_rfl) rfl rfl (fun hp' => v_move (ov rfl)) ?_
          refine D_free 1 _ rfl (by kernel_rfl) rfl rfl (fun hp' => v_move (ov rfl)) ?_
          obtain ⟨q, h_q, h⟩ := bnd h
          refine D_free 2 _ rfl (by kernel_rfl) rfl rfl (fun hp' => v_quoG (ov rfl) (ov rfl) h_q) ?_
          refine D_free 3 _ rfl (by kernel_rfl) rfl rfl (fun hp' => v_move (ov rfl)) ?_
          refine D_free 4 _ rfl (by kernel_rfl) rfl rfl (fun hp' => v_move (ov rfl)) ?_
          obtain ⟨q2, h_q2, h⟩ := bnd h
          refine D_free 5 _ rfl (by kernel_rfl) rfl rfl (fun hp' => v_quoG (ov rfl) (ov rfl) h_q2) ?_
          refine D_free 6 _ rfl (by kernel_rfl) rfl rfl (fun hp' => v_build (ys := [_, _]) tPL46 tHA46 tZ46 (.cons (cvs (ov rfl) (cell1_b rfl)) <| .cons (cvs (ov rfl) (cell1_b rfl)) <| .nil) rfl) ?_
          refine D_free 7 _ rfl (by kernel_rfl) rfl rfl (fun hp' => v_move (ov rfl)) ?_
          refine D_one 8 _ _ rfl (by kernel_rfl) rfl rfl (fun h => by cases h) (fun h => by cases h) (w_store (ov rfl) (ov rfl) (cells_agg tA46 rfl) rfl rfl rfl (Nat.le_of_ble_eq_true rfl) (cell1_all rfl) rfl) ?_
          refine D_free 9 _ rfl (by kernel_rfl) rfl rfl (fun hp' => v_assign (ov rfl)) ?_
          refine D_free 10 _ rfl (by kernel_rfl) rfl rfl (fun hp' => v_assign (ov rfl)) ?_
          refine D_done (by kernel_rfl) ?_
          obtain rfl := rt (v := ((api_Ratio.mk q q2), at_, 0)) h
          refine T_ret (retq ?_ (.three (.agg rfl rfl rfl rfl tA46 rfl rfl (pwB rfl)) (.tmp rfl (Dat.view (.b rfl))) (.tmp rfl (Dat.view (.b rfl)))))
          rfl

theorem ok_series_Hold {s : api_Series} {at_ : Int} {long : Int} {r : api_Sample × Bool × Int} (h : series_Hold s at_ long = some r) :
    CSpec Tryd.prog gl0 44 [.agg [.int .i64 s.Den, .sl 69 (List.map R69 s.Samples)], .int .i64 at_, .int .i64 long] (.tuple [.agg [.int .i64 r.1.At, .int .i64 r.1.N, .int .i64 r.1.Mark], .bool r.2.1, .int .i64 r.2.2]) := by
  unfold series_Hold at h
  replace h := bnd0 h
  refine spec_of (by kernel_rfl) Tryd.func44 rfl rfl ?_
  intro w0 A
  refine T_seq (T_reg ?_)
  refine R_q _ rfl (v_boxD (cva (ov rfl)) rfl tZ_24 rfl) ?_
  refine R_w _ _ rfl (w_alloc (row := [_, _, _]) 0 rfl tZ69 rfl tZ_69) ?_
  refine R_q _ rfl (v_assign (ov rfl)) ?_
  refine R_q _ rfl (v_assign (ov rfl)) ?_
  refine R_nil ?_
  refine T_seq ?_
  refine T_keep (kc 1 rfl <| kc 2 rfl <| kc 3 rfl <| kc 6 rfl <| kn) rfl ?_
  refine T_seq (T_reg ?_)
  refine R_q _ rfl (v_loadA_r (ov rfl) tA24 rfl rfl) ?_
  obtain ⟨y, h_y, h⟩ := bnd h
  refine R_q _ rfl (v_call (ok_series_Check h_y) (.cons (ov rfl) (.aggB rfl) <| .nil)) ?_
  refine R_q _ rfl (v_assign (ov rfl)) ?_
  refine R_nil ?_
  refine T_keep (kc 1 rfl <| kc 2 rfl <| kc 3 rfl <| kc 6 rfl <| kc 9 rfl <| kn) rfl ?_
  refine T_seq (T_reg ?_)
  refine R_q _ rfl (v_move (ov rfl)) ?_
  refine R_q _ rfl (v_neq (ov rfl) (ov rfl)) ?_
  refine R_nil ?_
  refine T_keep (kc 1 rfl <| kc 2 rfl <| kc 3 rfl <| kc 6 rfl <| kc 9 rfl <| kc 15 rfl <| kn) rfl ?_
  refine T_if h rfl (fun b15 h => ?_) (fun b15 h => ?_)
  · skip
    refine T_keep (kc 6 rfl <| kc 9 rfl <| kn) rfl ?_
    refine T_seq (T_reg ?_)
    refine R_q _ rfl (v_build (ys := [_, _, _]) tPL69 tHA69 tZ69 (.nil) rfl) ?_
    refine R_q _ rfl (v_move (ov rfl)) ?_
    refine R_w _ _ rfl (w_store (ov rfl) (ov rfl) (cells_agg tA69 rfl) rfl rfl rfl (Nat.le_of_ble_eq_true rfl) (cell1_all rfl) rfl) ?_
    refine R_q _ rfl (v_assign (ov rfl)) ?_
    refine R_q _ rfl (v_assign (ov rfl)) ?_
    refine R_nil ?_
    obtain rfl := rt (v := ((api_Sample.mk 0 0 0), false, y)) h
    refine T_ret (retq ?_ (.three (.agg rfl rfl rfl rfl tA69 rfl rfl (pwB rfl)) (.tmp rfl (Dat.view (.b rfl))) (.tmp rfl (Dat.view (.b rfl)))))
    rfl
  · skip
    refine T_skip ?_
    refine T_seq ?_
    refine T_keep (kc 1 rfl <| kc 2 rfl <| kc 3 rfl <| kc 6 rfl <| kn) rfl ?_
    refine T_seq (T_reg ?_)
    refine R_q _ rfl (v_move (ov rfl)) ?_
    obtain ⟨y2, h_y2, h⟩ := bnd h
    refine R_q _ rfl (v_call (ok_series_within h_y2) (.cons (ov rfl) (.b rfl) <| .cons (ov rfl) (.b rfl) <| .cons (ov rfl) (.b rfl) <| .nil)) ?_
    refine R_q _ rfl (v_not (ov rfl)) ?_
    refine R_q _ rfl (v_move (ov rfl)) ?_
    refine R_q _ rfl (.guarded ((!y2) == false) rfl rfl rfl rfl fun h => v_move (ov rfl)) ?_
    obtain ⟨y3, h_y3, h⟩ := bnd h
    refine R_q _ rfl (.guarded ((!y2) == false) rfl rfl rfl rfl fun h => v_call (ok_series_within (gdT h_y3 h)) (.cons (ow rfl h) (.b rfl) <| .cons (ov rfl) (.b rfl) <| .cons (ov rfl) (.b rfl) <| .nil)) ?_
    refine R_q _ rfl (.guarded ((!y2) == false) rfl rfl rfl rfl fun h => v_not (ow rfl h)) ?_
    refine R_q _ rfl (v_or (ov rfl) (fun hp => ow rfl (gF hp))) ?_
    refine R_nil ?_
    refine T_keep (kc 1 rfl <| kc 2 rfl <| kc 3 rfl <| kc 6 rfl <| kc 25 rfl <| kn) rfl ?_
    refine T_if h rfl (fun b25 h => ?_) (fun b25 h => ?_)
    · skip
      refine T_keep (kc 6 rfl <| kn) rfl ?_
      refine T_seq (T_reg ?_)
      refine R_q _ rfl (v_build (ys := [_, _, _]) tPL69 tHA69 tZ69 (.nil) rfl) ?_
      refine R_w _ _ rfl (w_store (ov rfl) (ov rfl) (cells_agg tA69 rfl) rfl rfl rfl (Nat.le_of_ble_eq_true rfl) (cell1_all rfl) rfl) ?_
      refine R_q _ rfl (v_assign (ov rfl)) ?_
      refine R_q _ rfl (v_assign (ov rfl)) ?_
      refine R_nil ?_
      obtain rfl := rt (v := ((api_Sample.mk 0 0 0), false, 9)) h
      refine T_ret (retq ?_ (.three (.agg rfl rfl rfl rfl tA69 rfl rfl (pwB rfl)) (.tmp rfl (Dat.view (.b rfl))) (.tmp rfl (Dat.view (.b rfl)))))
      rfl
    · skip
      refine T_skip ?_
      refine T_keep (kc 1 rfl <| kc 2 rfl <| kc 3 rfl <| kc 6 rfl <| kn) rfl ?_
      refine T_seq (T_reg ?_)
      refine R_q _ rfl (v_loadA_r (ov rfl) tA24 rfl rfl) ?_
      refine R_q _ rfl (v_move (ov rfl)) ?_
      refine R_q _ rfl (v_move (ov rfl)) ?_
      obtain ⟨y4, h_y4, h⟩ := bnd h
      refine R_q _ rfl (v_call (ok_series_hold h_y4) (.cons (ov rfl) (.aggB rfl) <| .cons (ov rfl) (.b rfl) <| .cons (ov rfl) (.b rfl) <| .nil)) ?_
      refine R_q _ rfl (v_move (ov rfl)) ?_
      refine R_q _ rfl (v_extract (ov rfl) rfl) ?_
      refine R_q _ rfl (v_extract (ov rfl) rfl) ?_
      refine R_w _ _ rfl (w_alloc (row := [_, _, _]) 1 rfl tZ69 rfl tZ_69) ?_
      refine R_w _ _ rfl (w_store (ov rfl) (ov rfl) (cells_agg tA69 rfl) rfl rfl rfl (Nat.le_of_ble_eq_true rfl) (cell1_all rfl) rfl) ?_
      refine R_q _ rfl (v_assign (ov rfl)) ?_
      refine R_nil ?_
      refine T_keep (kc 6 rfl <| kc 10 rfl <| kc 11 rfl <| kn) rfl ?_
      refine T_seq (T_reg ?_)
      refine R_q _ rfl (v_loadA (ov rfl) rfl rfl rfl tA69 rfl rfl) ?_
      refine R_q _ rfl (v_move (ov rfl)) ?_
      refine R_w _ _ rfl (w_store (ov rfl) (ov rfl) (cells_agg tA69 rfl) rfl rfl rfl (Nat.le_of_ble_eq_true rfl) (cell1_all rfl) rfl) ?_
      refine R_q _ rfl (v_assign (ov rfl)) ?_
      refine R_q _ rfl (v_assign (ov rfl)) ?_
      refine R_nil ?_
      obtain rfl := rt (v := (y4.1, y4.2, 0)) h
      refine T_ret (retq ?_ (.three (.agg rfl rfl rfl rfl tA69 rfl rfl (pwB rfl)) (.tmp rfl (Dat.view (.b rfl))) (.tmp rfl (Dat.view (.b rfl)))))
      rfl

theorem ok_law5_holds  {r : Bool} (h : law5_holds  = some r) :
    CSpec Tryd.prog gl0 13 [] (.bool r) := by
  unfold law5_holds at h
  replace h := bnd0 h
  refine spec_of (by kernel_rfl) Tryd.func13 rfl rfl ?_
  intro w0 A
  refine T_seq (T_reg ?_)
  refine R_q _ rfl (v_assign (ov rfl)) ?_
  refine R_nil ?_
  refine T_keep (kn) rfl ?_
  refine T_seq (T_reg ?_)
  refine R_q _ rfl (v_build (ys := [_, _, _]) tPL69 tHA69 tZ69 (.cons (cvs (ov rfl) (cell1_b rfl)) <| .cons (cvs (ov rfl) (cell1_b rfl)) <| .cons (cvs (ov rfl) (cell1_b rfl)) <| .nil) rfl) ?_
  refine R_q (.sl 69 (List.map R69 ([(api_Sample.mk 5 7 4)] : List api_Sample))) rfl (v_lit tL22 (.cons (cva (ov rfl)) rfl (pwD rfl) <| .nil) rfl rfl) ?_
  refine R_q _ rfl (v_build (ys := [_, _]) tPL24 tHA24 tZ24 (.cons (cvs (ov rfl) (cell1_b rfl)) <| .cons (cvs (ov rfl) (cell1_b rfl)) <| .nil) rfl) ?_
  obtain ⟨y, h_y, h⟩ := bnd h
  refine R_q _ rfl (v_call (ok_series_Hold h_y) (.cons (ov rfl) (.aggB rfl) <| .cons (ov rfl) (.b rfl) <| .cons (ov rfl) (.b rfl) <| .nil)) ?_
  refine R_q _ rfl (v_move (ov rfl)) ?_
  refine R_q _ rfl (v_extract (ov rfl) rfl) ?_
  refine R_q _ rfl (v_extract (ov rfl) rfl) ?_
  refine R_q _ rfl (v_extract (ov rfl) rfl) ?_
  refine R_w _ _ rfl (w_alloc (row := [_, _, _]) 0 rfl tZ69 rfl tZ_69) ?_
  refine R_w _ _ rfl (w_store (ov rfl) (ov rfl) (cells_agg tA69 rfl) rfl rfl rfl (Nat.le_of_ble_eq_true rfl) (cell1_all rfl) rfl) ?_
  refine R_q _ rfl (v_assign (ov rfl)) ?_
  refine R_q _ rfl (v_assign (ov rfl)) ?_
  refine R_nil ?_
  refine T_keep (kc 1 rfl <| kc 2 rfl <| kc 3 rfl <| kn) rfl ?_
  refine T_seq (T_reg ?_)
  refine R_q _ rfl (v_move (ov rfl)) ?_
  refine R_q _ rfl (v_move (ov rfl)) ?_
  refine R_q _ rfl (.guarded (y.2.1 == true) rfl rfl rfl rfl fun h => v_move (ov rfl)) ?_
  refine R_q _ rfl (.guarded (y.2.1 == true) rfl rfl rfl rfl fun h => v_eql (ow rfl h) (ov rfl)) ?_
  refine R_q _ rfl (v_and (ov rfl) (fun hp => ow rfl (gT hp))) ?_
  refine R_q _ rfl (v_move (ov rfl)) ?_
  refine R_q _ rfl (.guarded ((y.2.1 && (decide (y.2.2 = 0))) == true) rfl rfl rfl rfl fun h => v_loadA (ov rfl) rfl rfl rfl tA69 rfl rfl) ?_
  refine R_q _ rfl (.guarded ((y.2.1 && (decide (y.2.2 = 0))) == true) rfl rfl rfl rfl fun h => v_build (ys := [_, _, _]) tPL69 tHA69 tZ69 (.cons (cvs (ov rfl) (cell1_b rfl)) <| .cons (cvs (ov rfl) (cell1_b rfl)) <| .cons (cvs (ov rfl) (cell1_b rfl)) <| .nil) rfl) ?_
  refine R_q _ rfl (.guarded ((y.2.1 && (decide (y.2.2 = 0))) == true) rfl rfl rfl rfl fun h => v_eqlS tFS69 (ow rfl h) (ow rfl h) (.aggB rfl) (.aggB rfl) rfl rfl) ?_
  refine R_q _ rfl (v_and (ov rfl) (fun hp => ow rfl (gT hp))) ?_
  refine R_q _ rfl (v_assign (ov rfl)) ?_
  refine R_nil ?_
  obtain rfl := rt (v := ((y.2.1 && (decide (y.2.2 = 0))) && (decide (y.1.At = 5) && (decide (y.1.N = 7) && (decide (y.1.Mark = 4) && true))))) h
  refine T_ret (retq ?_ (.one (.tmp rfl (Dat.view (.b rfl)))))
  rfl

theorem ok_law5_SeriesCombineMatchesSpec {a : api_Series} {b : api_Series} {op : Int} {long : Int} {r : Bool} (h : law5_SeriesCombineMatchesSpec a b op long = some r) :
    CSpec Tryd.prog gl0 7 [.agg [.int .i64 a.Den, .sl 69 (List.map R69 a.Samples)], .agg [.int .i64 b.Den, .sl 69 (List.map R69 b.Samples)], .int .i64 op, .int .i64 long] (.bool r) := by
  unfold law5_SeriesCombineMatchesSpec at h
  replace h := bnd0 h
  refine spec_of (by kernel_rfl) Tryd.func7 rfl rfl ?_
  intro w0 A
  refine T_seq (T_reg ?_)
  refine R_q _ rfl (v_boxD (cva (ov rfl)) rfl tZ_24 rfl) ?_
  refine R_q _ rfl (v_boxD (cva (ov rfl)) rfl tZ_24 rfl) ?_
  refine R_q _ rfl (v_assign (ov rfl)) ?_
  refine R_nil ?_
  refine T_seq ?_
  refine T_keep (kc 2 rfl <| kc 3 rfl <| kc 4 rfl <| kc 5 rfl <| kn) rfl ?_
  refine T_seq (T_draw (cw := md0) (by kernel_rfl) ?_)
  refine D_read 0 _ rfl (by kernel_rfl) rfl rfl rfl ExtW.refl (fun hp' hx => v_loadA_r (ov rfl) tA24 rfl rfl) ?_
  refine D_read 1 _ rfl (by kernel_rfl) rfl rfl rfl ExtW.refl (fun hp' hx => v_loadA_r (ov rfl) tA24 rfl rfl) ?_
  refine D_free 2 _ rfl (by kernel_rfl) rfl rfl (fun hp' => v_move (ov rfl)) ?_
  refine D_free 3 _ rfl (by kernel_rfl) rfl rfl (fun hp' => v_move (ov rfl)) ?_
  obtain ⟨y, h_y, h⟩ := bnd h
  refine D_read 4 _ rfl (by kernel_rfl) rfl rfl rfl ExtW.refl (fun hp' hx => v_call (ok_series_Combine h_y) (.cons (ov rfl) (.aggB rfl) <| .cons (ov rfl) (.aggB rfl) <| .cons (ov rfl) (.b rfl) <| .cons (ov rfl) (.b rfl) <| .nil)) ?_
  refine D_free 5 _ rfl (by kernel_rfl) rfl rfl (fun hp' => v_extract (ov rfl) rfl) ?_
  refine D_free 6 _ rfl (by kernel_rfl) rfl rfl (fun hp' => v_extract (ov rfl) rfl) ?_
  obtain ⟨y2, h_y2, h⟩ := bnd h
  refine D_read 7 _ rfl (by kernel_rfl) rfl rfl rfl ExtW.refl (fun hp' hx => v_call (ok_law5_told h_y2) (.cons (ov rfl) (.aggB rfl) <| .cons (ov rfl) (.b rfl) <| .nil)) ?_
  refine D_read 8 _ rfl (by kernel_rfl) rfl rfl rfl ExtW.refl (fun hp' hx => v_loadA_r (ov rfl) tA24 rfl rfl) ?_
  refine D_read 9 _ rfl (by kernel_rfl) rfl rfl rfl ExtW.refl (fun hp' hx => v_loadA_r (ov rfl) tA24 rfl rfl) ?_
  refine D_free 10 _ rfl (by kernel_rfl) rfl rfl (fun hp' => v_move (ov rfl)) ?_
  refine D_free 11 _ rfl (by kernel_rfl) rfl rfl (fun hp' => v_move (ov rfl)) ?_
  obtain ⟨y3, h_y3, h⟩ := bnd h
  refine D_read 12 _ rfl (by kernel_rfl) rfl rfl rfl ExtW.refl (fun hp' hx => v_call (ok_ref5_Combine h_y3) (.cons (ov rfl) (.aggB rfl) <| .cons (ov rfl) (.aggB rfl) <| .cons (ov rfl) (.b rfl) <| .cons (ov rfl) (.b rfl) <| .nil)) ?_
  refine D_free 13 _ rfl (by kernel_rfl) rfl rfl (fun hp' => v_extract (ov rfl) rfl) ?_
  refine D_free 14 _ rfl (by kernel_rfl) rfl rfl (fun hp' => v_extract (ov rfl) rfl) ?_
  obtain ⟨y4, h_y4, h⟩ := bnd h
  refine D_read 15 _ rfl (by kernel_rfl) rfl rfl rfl ExtW.refl (fun hp' hx => v_call (ok_law5_told h_y4) (.cons (ov rfl) (.aggB rfl) <| .cons (ov rfl) (.b rfl) <| .nil)) ?_
  refine D_free 16 _ rfl (by kernel_rfl) rfl rfl (fun hp' => v_neqStr (ov rfl) (ov rfl)) ?_
  refine D_done (by kernel_rfl) ?_
  refine T_keep (kc 3 rfl <| kc 4 rfl <| kc 31 rfl <| kn) rfl ?_
  refine T_if h rfl (fun b31 h => ?_) (fun b31 h => ?_)
  · skip
    refine T_keep (kn) rfl ?_
    refine T_seq (T_reg ?_)
    refine R_q _ rfl (v_assign (ov rfl)) ?_
    refine R_nil ?_
    obtain rfl := rt (v := false) h
    refine T_ret (retq ?_ (.one (.tmp rfl (Dat.view (.b rfl)))))
    rfl
  · skip
    refine T_skip ?_
    refine T_keep (kc 3 rfl <| kc 4 rfl <| kn) rfl ?_
    refine T_seq (T_reg ?_)
    refine R_q _ rfl (v_loadA_r (ov rfl) tA24 rfl rfl) ?_
    refine R_q _ rfl (v_move (ov rfl)) ?_
    obtain ⟨y5, h_y5, h⟩ := bnd h
    refine R_q _ rfl (v_call (ok_series_Steepest h_y5) (.cons (ov rfl) (.aggB rfl) <| .cons (ov rfl) (.b rfl) <| .nil)) ?_
    refine R_q _ rfl (v_move (ov rfl)) ?_
    refine R_q _ rfl (v_extract (ov rfl) rfl) ?_
    refine R_q _ rfl (v_extract (ov rfl) rfl) ?_
    refine R_q _ rfl (v_extract (ov rfl) rfl) ?_
    refine R_w _ _ rfl (w_alloc (row := [_, _]) 0 rfl tZ46 rfl tZ_46) ?_
    refine R_w _ _ rfl (w_store (ov rfl) (ov rfl) (cells_agg tA46 rfl) rfl rfl rfl (Nat.le_of_ble_eq_true rfl) (cell1_all rfl) rfl) ?_
    refine R_q _ rfl (v_assign (ov rfl)) ?_
    refine R_q _ rfl (v_assign (ov rfl)) ?_
    refine R_nil ?_
    refine T_keep (kc 3 rfl <| kc 4 rfl <| kc 9 rfl <| kc 10 rfl <| kc 11 rfl <| kn) rfl ?_
    refine T_seq (T_reg ?_)
    refine R_q _ rfl (v_loadA_r (ov rfl) tA24 rfl rfl) ?_
    refine R_q _ rfl (v_move (ov rfl)) ?_
    obtain ⟨y6, h_y6, h⟩ := bnd h
    refine R_q _ rfl (v_call (ok_ref5_Steepest h_y6) (.cons (ov rfl) (.aggB rfl) <| .cons (ov rfl) (.b rfl) <| .nil)) ?_
    refine R_q _ rfl (v_move (ov rfl)) ?_
    refine R_q _ rfl (v_extract (ov rfl) rfl) ?_
    refine R_q _ rfl (v_extract (ov rfl) rfl) ?_
    refine R_q _ rfl (v_extract (ov rfl) rfl) ?_
    refine R_w _ _ rfl (w_alloc (row := [_, _]) 1 rfl tZ46 rfl tZ_46) ?_
    refine R_w _ _ rfl (w_store (ov rfl) (ov rfl) (cells_agg tA46 rfl) rfl rfl rfl (Nat.le_of_ble_eq_true rfl) (cell1_all rfl) rfl) ?_
    refine R_q _ rfl (v_assign (ov rfl)) ?_
    refine R_q _ rfl (v_assign (ov rfl)) ?_
    refine R_nil ?_
    refine T_keep (kc 9 rfl <| kc 10 rfl <| kc 11 rfl <| kc 12 rfl <| kc 13 rfl <| kc 14 rfl <| kn) rfl ?_
    refine T_seq (T_reg ?_)
    refine R_q _ rfl (v_loadA (ov rfl) rfl rfl rfl tA46 rfl rfl) ?_
    refine R_q _ rfl (v_loadA (ov rfl) rfl rfl rfl tA46 rfl rfl) ?_
    refine R_q _ rfl (v_eqlS tFS46 (ov rfl) (ov rfl) (.aggB rfl) (.aggB rfl) rfl rfl) ?_
    refine R_q _ rfl (v_move (ov rfl)) ?_
    refine R_q _ rfl (.guarded ((decide (y5.1.Num = y6.1.Num) && (decide (y5.1.Den = y6.1.Den) && true)) == true) rfl rfl rfl rfl fun h => v_move (ov rfl)) ?_
    refine R_q _ rfl (.guarded ((decide (y5.1.Num = y6.1.Num) && (decide (y5.1.Den = y6.1.Den) && true)) == true) rfl rfl rfl rfl fun h => v_move (ov rfl)) ?_
    refine R_q _ rfl (.guarded ((decide (y5.1.Num = y6.1.Num) && (decide (y5.1.Den = y6.1.Den) && true)) == true) rfl rfl rfl rfl fun h => v_eql (ow rfl h) (ow rfl h)) ?_
    refine R_q _ rfl (v_and (ov rfl) (fun hp => ow rfl (gT hp))) ?_
    refine R_q _ rfl (v_move (ov rfl)) ?_
    refine R_q _ rfl (.guarded (((decide (y5.1.Num = y6.1.Num) && (decide (y5.1.Den = y6.1.Den) && true)) && (decide (y5.2.1 = y6.2.1))) == true) rfl rfl rfl rfl fun h => v_move (ov rfl)) ?_
    refine R_q _ rfl (.guarded (((decide (y5.1.Num = y6.1.Num) && (decide (y5.1.Den = y6.1.Den) && true)) && (decide (y5.2.1 = y6.2.1))) == true) rfl rfl rfl rfl fun h => v_move (ov rfl)) ?_
    refine R_q _ rfl (.guarded (((decide (y5.1.Num = y6.1.Num) && (decide (y5.1.Den = y6.1.Den) && true)) && (decide (y5.2.1 = y6.2.1))) == true) rfl rfl rfl rfl fun h => v_eql (ow rfl h) (ow rfl h)) ?_
    refine R_q _ rfl (v_and (ov rfl) (fun hp => ow rfl (gT hp))) ?_
    refine R_q _ rfl (v_move (ov rfl)) ?_
    obtain ⟨y7, h_y7, h⟩ := bnd h
    refine R_q _ rfl (.guarded ((((decide (y5.1.Num = y6.1.Num) && (decide (y5.1.Den = y6.1.Den) && true)) && (decide (y5.2.1 = y6.2.1))) && (decide (y5.2.2 = y6.2.2))) == true) rfl rfl rfl rfl fun h => v_call (ok_law5_holds (gdT h_y7 h)) (.nil)) ?_
    refine R_q _ rfl (v_and (ov rfl) (fun hp => ow rfl (gT hp))) ?_
    refine R_q _ rfl (v_assign (ov rfl)) ?_
    refine R_nil ?_
    obtain rfl := rt (v := ((((decide (y5.1.Num = y6.1.Num) && (decide (y5.1.Den = y6.1.Den) && true)) && (decide (y5.2.1 = y6.2.1))) && (decide (y5.2.2 = y6.2.2))) && y7)) h
    refine T_ret (retq ?_ (.one (.tmp rfl (Dat.view (.b rfl)))))
    rfl
end Go.Proofs.YtecdkapjjhkanaaDoor
