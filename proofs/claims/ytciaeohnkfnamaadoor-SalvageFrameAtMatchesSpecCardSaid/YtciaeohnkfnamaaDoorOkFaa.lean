/- A text of the proof: a verified executor of the program form, or the contracts of the functions that the law reaches. -/
import Derived.Test.YtciaeohnkfnamaaDoorShT
import Derived.Test.YtciaeohnkfnamaaDoorProg
import Derived.Test.YtciaeohnkfnamaaDoorLayD
set_option linter.all false
namespace Go.Proofs.YtciaeohnkfnamaaDoor
open Go Go.Vx
set_option maxRecDepth 10000
set_option maxHeartbeats 1000000
set_option linter.unusedVariables false
theorem tZ_5 : Tryd.prog.cellsOf 5 = 1 := by kernel_rfl
theorem tZ_35 : Tryd.prog.cellsOf 35 = 2 := by kernel_rfl
theorem tA35 : tAgg Tryd.prog 35 2 = true := by kernel_rfl
theorem tZ38 : zeroOf Tryd.prog 38 = some [.int .u16 0, .int .u16 0, .int .u16 0, .int .u16 0, .int .u16 0, .int .u16 0, .int .u16 0, .int .u16 0, .int .u16 0, .int .u16 0, .int .u16 0, .int .u16 0, .int .u16 0, .int .u16 0, .int .u16 0, .int .u16 0, .int .u16 0, .int .u16 0, .int .u16 0, .int .u16 0, .int .u16 0, .int .u16 0, .int .u16 0, .int .u16 0, .int .u16 0, .int .u16 0, .int .u16 0, .int .u16 0, .int .u16 0, .int .u16 0, .int .u16 0, .int .u16 0, .int .u16 0, .int .u16 0, .int .u16 0, .int .u16 0, .int .u16 0, .int .u16 0, .int .u16 0, .int .u16 0, .int .u16 0, .int .u16 0, .int .u16 0, .int .u16 0, .int .u16 0, .int .u16 0, .int .u16 0, .int .u16 0, .int .u16 0, .int .u16 0, .int .u16 0, .int .u16 0, .int .u16 0, .int .u16 0, .int .u16 0, .int .u16 0, .int .u16 0, .int .u16 0, .int .u16 0, .int .u16 0, .int .u16 0, .int .u16 0, .int .u16 0, .int .u16 0] := by kernel_rfl
theorem tZ_38 : Tryd.prog.cellsOf 38 = 64 := by kernel_rfl
theorem tZ39 : zeroOf Tryd.prog 39 = some [.bool false, .bool false, .bool false, .bool false, .bool false, .bool false, .bool false, .bool false, .bool false, .bool false, .bool false, .bool false, .bool false, .bool false, .bool false, .bool false, .bool false, .bool false, .bool false, .bool false, .bool false, .bool false, .bool false, .bool false, .bool false, .bool false, .bool false, .bool false, .bool false, .bool false, .bool false, .bool false, .bool false, .bool false, .bool false, .bool false, .bool false, .bool false, .bool false, .bool false, .bool false, .bool false, .bool false, .bool false, .bool false, .bool false, .bool false, .bool false, .bool false, .bool false, .bool false, .bool false, .bool false, .bool false, .bool false, .bool false, .bool false, .bool false, .bool false, .bool false, .bool false, .bool false, .bool false, .bool false] := by kernel_rfl
theorem tZ_39 : Tryd.prog.cellsOf 39 = 64 := by kernel_rfl
theorem tF35_0 : tFld Tryd.prog 35 0 0 = true := by kernel_rfl
theorem tS33 : tScal Tryd.prog 33 = true := by kernel_rfl
theorem tL33 : tSl Tryd.prog 33 5 1 1 = true := by kernel_rfl
theorem tF35_1 : tFld Tryd.prog 35 1 1 = true := by kernel_rfl
theorem tS4 : tScal Tryd.prog 4 = true := by kernel_rfl
theorem tS5 : tScal Tryd.prog 5 = true := by kernel_rfl
theorem tR38 : tArr Tryd.prog 38 64 36 1 = true := by kernel_rfl
theorem tR39 : tArr Tryd.prog 39 64 4 1 = true := by kernel_rfl
theorem tA38 : tAgg Tryd.prog 38 64 = true := by kernel_rfl
theorem tA39 : tAgg Tryd.prog 39 64 = true := by kernel_rfl
theorem tZ5 : zeroOf Tryd.prog 5 = some [.int .u8 0] := by kernel_rfl
theorem tI5 : tInt Tryd.prog 5 .u8 = true := by kernel_rfl
theorem tI36 : tInt Tryd.prog 36 .u16 = true := by kernel_rfl
theorem tS36 : tScal Tryd.prog 36 = true := by kernel_rfl
theorem tZ_3 : Tryd.prog.cellsOf 3 = 1 := by kernel_rfl
theorem tL26 : tSl Tryd.prog 26 3 1 8 = true := by kernel_rfl
theorem tZ3 : zeroOf Tryd.prog 3 = some [.int .i64 0] := by kernel_rfl
theorem tI3 : tInt Tryd.prog 3 .i64 = true := by kernel_rfl
theorem tS3 : tScal Tryd.prog 3 = true := by kernel_rfl
theorem tR161 : tArr Tryd.prog 161 4 3 1 = true := by kernel_rfl
theorem tZ161 : zeroOf Tryd.prog 161 = some [.int .i64 0, .int .i64 0, .int .i64 0, .int .i64 0] := by kernel_rfl
theorem tPL35 : structPl Tryd.prog 35 = some [(0, 1), (1, 1)] := by kernel_rfl
theorem tHA35 : hasAll Tryd.prog 35 = true := by kernel_rfl
theorem tZ35 : zeroOf Tryd.prog 35 = some [.slice none 0 0, .bool false] := by kernel_rfl
theorem tL78 : tSl Tryd.prog 78 35 2 32 = true := by kernel_rfl
theorem tZ_141 : Tryd.prog.cellsOf 141 = 65 := by kernel_rfl
theorem tZ_137 : Tryd.prog.cellsOf 137 = 1 := by kernel_rfl
theorem tR202 : tArr Tryd.prog 202 4 36 1 = true := by kernel_rfl
theorem tR225 : tArr Tryd.prog 225 192 5 1 = true := by kernel_rfl
theorem tA225 : tAgg Tryd.prog 225 192 = true := by kernel_rfl
theorem tZ_225 : Tryd.prog.cellsOf 225 = 192 := by kernel_rfl
theorem tStr9 : tStr Tryd.prog 9 = true := by kernel_rfl
theorem tB4 : (match Tryd.prog.underlying 4 with | some .bool => true | _ => false) = true := by kernel_rfl
theorem tZ_33 : Tryd.prog.cellsOf 33 = 1 := by kernel_rfl
theorem tZ137 : zeroOf Tryd.prog 137 = some [.slice none 0 0] := by kernel_rfl
theorem tS137 : tScal Tryd.prog 137 = true := by kernel_rfl
theorem tPL141 : structPl Tryd.prog 141 = some [(0, 1), (1, 64)] := by kernel_rfl
theorem tHA141 : hasAll Tryd.prog 141 = true := by kernel_rfl
theorem tZ141 : zeroOf Tryd.prog 141 = some ([.int .i64 0] ++ (List.flatten (List.replicate 64 [.int .u16 0]))) := by kernel_rfl
theorem tL137 : tSl Tryd.prog 137 141 65 136 = true := by kernel_rfl
theorem tA141 : tAgg Tryd.prog 141 65 = true := by kernel_rfl
theorem tF141_0 : tFld Tryd.prog 141 0 0 = true := by kernel_rfl
theorem tMp97 : tMap Tryd.prog 97 3 3 = true := by kernel_rfl
theorem tPL139 : structPl Tryd.prog 139 = some [(0, 1), (1, 1), (2, 1), (3, 1)] := by kernel_rfl
theorem tHA139 : hasAll Tryd.prog 139 = true := by kernel_rfl
theorem tZ139 : zeroOf Tryd.prog 139 = some [.slice none 0 0, .slice none 0 0, .slice none 0 0, .map none] := by kernel_rfl
theorem tA139 : tAgg Tryd.prog 139 4 = true := by kernel_rfl
theorem tF139_1 : tFld Tryd.prog 139 1 1 = true := by kernel_rfl
theorem tZV3 : zeroV Tryd.prog 3 = some (.int .i64 0) := by kernel_rfl
theorem tF141_1 : tFld Tryd.prog 141 1 1 = true := by kernel_rfl
theorem tF139_3 : tFld Tryd.prog 139 3 3 = true := by kernel_rfl
theorem tS97 : tScal Tryd.prog 97 = true := by kernel_rfl
theorem tF139_2 : tFld Tryd.prog 139 2 2 = true := by kernel_rfl
theorem tS26 : tScal Tryd.prog 26 = true := by kernel_rfl
theorem tZ_139 : Tryd.prog.cellsOf 139 = 4 := by kernel_rfl
theorem tZ_97 : Tryd.prog.cellsOf 97 = 1 := by kernel_rfl
theorem tZ79 : zeroOf Tryd.prog 79 = some [.int .i64 0, .int .i64 0, .int .i64 0, .int .i64 0, .int .i64 0, .int .i64 0, .int .i64 0, .int .i64 0, .int .i64 0, .int .i64 0, .int .i64 0, .int .i64 0, .int .i64 0, .int .i64 0, .int .i64 0, .int .i64 0, .int .i64 0, .int .i64 0, .int .i64 0, .int .i64 0, .int .i64 0, .int .i64 0, .int .i64 0, .int .i64 0, .int .i64 0, .int .i64 0, .int .i64 0, .int .i64 0, .int .i64 0, .int .i64 0, .int .i64 0, .int .i64 0, .int .i64 0, .int .i64 0, .int .i64 0, .int .i64 0, .int .i64 0, .int .i64 0, .int .i64 0, .int .i64 0, .int .i64 0, .int .i64 0, .int .i64 0, .int .i64 0, .int .i64 0, .int .i64 0, .int .i64 0, .int .i64 0, .int .i64 0, .int .i64 0, .int .i64 0, .int .i64 0, .int .i64 0, .int .i64 0, .int .i64 0, .int .i64 0, .int .i64 0, .int .i64 0, .int .i64 0, .int .i64 0, .int .i64 0, .int .i64 0, .int .i64 0, .int .i64 0] := by kernel_rfl
theorem tZ_79 : Tryd.prog.cellsOf 79 = 64 := by kernel_rfl
theorem tR79 : tArr Tryd.prog 79 64 3 1 = true := by kernel_rfl
theorem tA79 : tAgg Tryd.prog 79 64 = true := by kernel_rfl
theorem tPL81 : structPl Tryd.prog 81 = some [(0, 1), (1, 64), (65, 64), (129, 1), (130, 1), (131, 1)] := by kernel_rfl
theorem tHA81 : hasAll Tryd.prog 81 = true := by kernel_rfl
theorem tZ81 : zeroOf Tryd.prog 81 = some ([.int .i64 0] ++ (List.flatten (List.replicate 64 [.int .u16 0])) ++ (List.flatten (List.replicate 64 [.int .i64 0])) ++ [.bool false, .int .i64 0, .bool false]) := by kernel_rfl
theorem tL75 : tSl Tryd.prog 75 81 132 672 = true := by kernel_rfl
theorem tZ_81 : Tryd.prog.cellsOf 81 = 132 := by kernel_rfl
theorem tF139_0 : tFld Tryd.prog 139 0 0 = true := by kernel_rfl
theorem tI101 : tInt Tryd.prog 101 .u64 = true := by kernel_rfl
theorem tA81 : tAgg Tryd.prog 81 132 = true := by kernel_rfl
theorem tF81_1 : tFld Tryd.prog 81 1 1 = true := by kernel_rfl
theorem tF81_2 : tFld Tryd.prog 81 2 65 = true := by kernel_rfl
theorem tMp146 : tMap Tryd.prog 146 3 75 = true := by kernel_rfl
theorem tZV75 : zeroV Tryd.prog 75 = some (.slice none 0 0) := by kernel_rfl
theorem tF81_0 : tFld Tryd.prog 81 0 0 = true := by kernel_rfl
theorem tZ_146 : Tryd.prog.cellsOf 146 = 1 := by kernel_rfl
theorem tIsl75 : (match Tryd.prog.underlying 75 with | some (.slice _) => true | _ => false) = true := by kernel_rfl
theorem tF81_4 : tFld Tryd.prog 81 4 130 = true := by kernel_rfl
theorem tF81_5 : tFld Tryd.prog 81 5 131 = true := by kernel_rfl
theorem tF81_3 : tFld Tryd.prog 81 3 129 = true := by kernel_rfl
def gl0 : Gl := ⟨1, [(0, (gv_frame_syncs.toList.map fun z => Value.int .u16 z).toArray)]⟩
def R5 (x : Int) : List AV := [.int .u8 x]
def C36 (x : Int) : AV := .int .u16 x
def C4 (x : Bool) : AV := .bool x
theorem D5 (x : Int) : (R5 x).length = Tryd.prog.cellsOf 5 ∧ (R5 x).all datB = true := ⟨tZ_5.symm, rfl⟩
theorem tEq38 : eqTy Tryd.prog 38 ((List.replicate 64 ([.i .u16])).flatten) := ⟨by kernel_rfl, by kernel_rfl, by kernel_rfl⟩
theorem tEq39 : eqTy Tryd.prog 39 ((List.replicate 64 ([.b])).flatten) := ⟨by kernel_rfl, by kernel_rfl, by kernel_rfl⟩
def R3 (x : Int) : List AV := [.int .i64 x]
def C3 (x : Int) : AV := .int .i64 x
theorem D3 (x : Int) : (R3 x).length = Tryd.prog.cellsOf 3 ∧ (R3 x).all datB = true := ⟨tZ_3.symm, rfl⟩
def R35 (x : api_Piece) : List AV := [.sl 5 (List.map R5 x.Bytes), .bool x.Half]
def R141 (x : api_Found) : List AV := (.int .i64 x.At) :: ((List.map C36 x.Frame.toList) ++ ([]))
theorem D141 (x : api_Found) : (R141 x).length = Tryd.prog.cellsOf 141 ∧ (R141 x).all datB = true := ⟨Eq.trans (b := 65) (lnC (n := 64) (lnA (m := 64) (n := 0) arL (lnN))) tZ_141.symm, (alC rfl (alA (arD fun _ => rfl) (alN)))⟩
def C5 (x : Int) : AV := .int .u8 x
theorem E141 (x : api_Found) : (R141 x).all c1B = true := (alC rfl (alA (arC fun _ => rfl) (alN)))
def FK3 (x : Int) : AV := .int .i64 x
theorem tKO3 : KeyOK Tryd.prog 3 FK3 kqI := key_int (fun _ => rfl) tI3
def FV3 (x : Int) : AV := .int .i64 x
def R81 (x : api_Rest) : List AV := (.int .i64 x.Number) :: ((List.map C36 x.Frame.toList) ++ (((List.map C3 x.States.toList) ++ ((.bool x.Sound) :: (.int .i64 x.Copies) :: (.bool x.Conflict) :: []))))
theorem E81 (x : api_Rest) : (R81 x).all c1B = true := (alC rfl (alA (arC fun _ => rfl) (alA (arC fun _ => rfl) (alC rfl (alC rfl (alC rfl (alN)))))))
theorem D81 (x : api_Rest) : (R81 x).length = Tryd.prog.cellsOf 81 ∧ (R81 x).all datB = true := ⟨Eq.trans (b := 132) (lnC (n := 131) (lnA (m := 64) (n := 67) arL (lnA (m := 64) (n := 3) arL (lnC (n := 2) (lnC (n := 1) (lnC (n := 0) (lnN))))))) tZ_81.symm, (alC rfl (alA (arD fun _ => rfl) (alA (arD fun _ => rfl) (alC rfl (alC rfl (alC rfl (alN)))))))⟩

theorem ok_salvage_CheckPiece {p : api_Piece} {r : Int} (h : salvage_CheckPiece p = some r) :
  CSpec Tryd.prog gl0 24 [.agg [.sl 5 (List.map R5 p.Bytes), .bool p.Half]] (.int .i64 r) := by
 unfold salvage_CheckPiece at h
 replace h := bnd0 h
 refine spec_of (by kernel_rfl) Tryd.func24 rfl rfl ?_
 intro w0 A
 refine T_seq (T_reg ?_)
 refine R_q _ rfl (v_boxD (cva (ov rfl)) rfl tZ_35 rfl) ?_
 refine R_q _ rfl (v_assign (ov rfl)) ?_
 refine R_nil ?_
 refine T_seq ?_
 refine T_block ?_
 refine T_keep (kc 1 rfl <| kn) rfl ?_
 refine T_seq (T_reg ?_)
 refine R_q _ rfl (v_fieldR (ov rfl) tF35_0) ?_
 refine R_q _ rfl (v_loadS_r (ov rfl) tS33 rfl) ?_
 refine R_q _ rfl (v_len (slv_sl (ov rfl) tZ_5) tL33 (len_map _ _)) ?_
 refine R_q _ rfl (v_gtr (ov rfl) (ov rfl)) ?_
 refine R_q _ rfl (v_assign (ov rfl)) ?_
 refine R_nil ?_
 refine T_keep (kc 1 rfl <| kc 3 rfl <| kn) rfl ?_
 refine T_if h rfl (fun b3 h => ?_) (fun b3 h => ?_)
 ·
  refine T_keep (kn) rfl ?_
  refine T_seq (T_reg ?_)
  refine R_q _ rfl (v_assign (ov rfl)) ?_
  refine R_nil ?_
  obtain rfl := rt (v := 3) h
  refine T_ret (retq ?_ (.one (.tmp rfl (Dat.view (.b rfl)))))
  rfl
 ·
  refine T_keep (kc 1 rfl <| kn) rfl ?_
  refine T_seq (T_reg ?_)
  refine R_q _ rfl (v_fieldR (ov rfl) tF35_1) ?_
  refine R_q _ rfl (v_loadS_r (ov rfl) tS4 rfl) ?_
  refine R_q _ rfl (v_move (ov rfl)) ?_
  refine R_q _ rfl (.guarded (p.Half == true) rfl rfl rfl rfl fun h => v_fieldR (ov rfl) tF35_0) ?_
  refine R_q _ rfl (.guarded (p.Half == true) rfl rfl rfl rfl fun h => v_loadS_r (ow rfl h) tS33 rfl) ?_
  refine R_q _ rfl (.guarded (p.Half == true) rfl rfl rfl rfl fun h => v_len (slv_sl (ow rfl h) tZ_5) tL33 (len_map _ _)) ?_
  refine R_q _ rfl (.guarded (p.Half == true) rfl rfl rfl rfl fun h => v_eql (ow rfl h) (ov rfl)) ?_
  refine R_q _ rfl (.guarded (p.Half == true) rfl rfl rfl rfl fun h => v_move (ow rfl h)) ?_
  refine R_q _ rfl (.guarded2 ((p.Half == true) && ((decide ((p.Bytes.length : Int) = 0)) == false)) rfl rfl rfl rfl fun h => v_fieldR (ov rfl) tF35_0) ?_
  refine R_q _ rfl (.guarded2 ((p.Half == true) && ((decide ((p.Bytes.length : Int) = 0)) == false)) rfl rfl rfl rfl fun h => v_loadS_r (ow rfl h) tS33 rfl) ?_
  obtain ⟨x, h_x, h⟩ := bnd h
  refine R_q _ rfl (.guarded2 ((p.Half == true) && ((decide ((p.Bytes.length : Int) = 0)) == false)) rfl rfl rfl rfl fun h => v_ixSG (ow rfl h) (ov rfl) tL33 (gdT h_x h)) ?_
  refine R_q _ rfl (.guarded2 ((p.Half == true) && ((decide ((p.Bytes.length : Int) = 0)) == false)) rfl rfl rfl rfl fun h => v_loadS_r (ow rfl h) tS5 rfl) ?_
  obtain ⟨q, h_q, h⟩ := bnd h
  refine R_q _ rfl (.guarded2 ((p.Half == true) && ((decide ((p.Bytes.length : Int) = 0)) == false)) rfl rfl rfl rfl fun h => v_shrG (ow rfl h) (ov rfl) (gdT h_q h)) ?_
  refine R_q _ rfl (.guarded2 ((p.Half == true) && ((decide ((p.Bytes.length : Int) = 0)) == false)) rfl rfl rfl rfl fun h => v_neq (ow rfl h) (ov rfl)) ?_
  refine R_q _ rfl (.guarded (p.Half == true) rfl rfl rfl rfl fun h => v_or (ow rfl h) (fun hp => ow rfl (gA h (gF hp)))) ?_
  refine R_q _ rfl (v_and (ov rfl) (fun hp => ow rfl (gT hp))) ?_
  refine R_q _ rfl (v_assign (ov rfl)) ?_
  refine R_nil ?_
  refine T_keep (kc 8 rfl <| kn) rfl ?_
  refine T_if h rfl (fun b8 h => ?_) (fun b8 h => ?_)
  ·
   refine T_keep (kn) rfl ?_
   refine T_seq (T_reg ?_)
   refine R_q _ rfl (v_assign (ov rfl)) ?_
   refine R_nil ?_
   obtain rfl := rt (v := 2) h
   refine T_ret (retq ?_ (.one (.tmp rfl (Dat.view (.b rfl)))))
   rfl
  ·
   refine T_skip ?_
   refine T_keep (kn) rfl ?_
   refine T_seq (T_reg ?_)
   refine R_q _ rfl (v_assign (ov rfl)) ?_
   refine R_nil ?_
   obtain rfl := rt (v := 0) h
   refine T_ret (retq ?_ (.one (.tmp rfl (Dat.view (.b rfl)))))
   rfl

theorem ok_salvage_ahead {p : api_Piece} {r : Int} (h : salvage_ahead p = some r) :
  CSpec Tryd.prog gl0 53 [.agg [.sl 5 (List.map R5 p.Bytes), .bool p.Half]] (.int .i64 r) := by
 unfold salvage_ahead at h
 replace h := bnd0 h
 refine spec_of (by kernel_rfl) Tryd.func53 rfl rfl ?_
 intro w0 A
 refine T_seq (T_reg ?_)
 refine R_q _ rfl (v_boxD (cva (ov rfl)) rfl tZ_35 rfl) ?_
 refine R_q _ rfl (v_assign (ov rfl)) ?_
 refine R_nil ?_
 refine T_seq ?_
 refine T_keep (kc 1 rfl <| kn) rfl ?_
 refine T_seq (T_reg ?_)
 refine R_q _ rfl (v_fieldR (ov rfl) tF35_1) ?_
 refine R_q _ rfl (v_loadS_r (ov rfl) tS4 rfl) ?_
 refine R_nil ?_
 refine T_keep (kc 4 rfl <| kn) rfl ?_
 refine T_if h rfl (fun b4 h => ?_) (fun b4 h => ?_)
 ·
  refine T_keep (kn) rfl ?_
  refine T_seq (T_reg ?_)
  refine R_q _ rfl (v_assign (ov rfl)) ?_
  refine R_nil ?_
  obtain rfl := rt (v := 1) h
  refine T_ret (retq ?_ (.one (.tmp rfl (Dat.view (.b rfl)))))
  rfl
 ·
  refine T_skip ?_
  refine T_keep (kn) rfl ?_
  refine T_seq (T_reg ?_)
  refine R_q _ rfl (v_assign (ov rfl)) ?_
  refine R_nil ?_
  obtain rfl := rt (v := 0) h
  refine T_ret (retq ?_ (.one (.tmp rfl (Dat.view (.b rfl)))))
  rfl

theorem ok_salvage_length {p : api_Piece} {r : Int} (h : salvage_length p = some r) :
  CSpec Tryd.prog gl0 25 [.agg [.sl 5 (List.map R5 p.Bytes), .bool p.Half]] (.int .i64 r) := by
 unfold salvage_length at h
 replace h := bnd0 h
 refine spec_of (by kernel_rfl) Tryd.func25 rfl rfl ?_
 intro w0 A
 refine T_seq (T_reg ?_)
 refine R_q _ rfl (v_boxD (cva (ov rfl)) rfl tZ_35 rfl) ?_
 refine R_q _ rfl (v_assign (ov rfl)) ?_
 refine R_nil ?_
 refine T_keep (kc 1 rfl <| kc 2 rfl <| kn) rfl ?_
 refine T_seq (T_draw (cw := md0) (by kernel_rfl) ?_)
 refine D_q0 0 _ rfl (by kernel_rfl) rfl rfl (v_fieldR (ov rfl) tF35_0) ?_
 refine D_q0 1 _ rfl (by kernel_rfl) rfl rfl (v_loadS_r (ov rfl) tS33 rfl) ?_
 refine D_q0 2 _ rfl (by kernel_rfl) rfl rfl (v_len (slv_sl (ov rfl) tZ_5) tL33 (len_map _ _)) ?_
 refine D_q0 3 _ rfl (by kernel_rfl) rfl rfl (v_mul (ov rfl) (ov rfl) rfl) ?_
 refine D_q0 4 _ rfl (by kernel_rfl) rfl rfl (v_loadA_r (ov rfl) tA35 rfl rfl) ?_
 obtain ⟨y, h_y, h⟩ := bnd h
 refine D_q0 5 _ rfl (by kernel_rfl) rfl rfl (v_call (ok_salvage_ahead h_y) (.cons (ov rfl) (.aggB rfl) <| .nil)) ?_
 refine D_q0 6 _ rfl (by kernel_rfl) rfl rfl (v_sub (ov rfl) (ov rfl) rfl) ?_
 refine D_q0 7 _ rfl (by kernel_rfl) rfl rfl (v_assign (ov rfl)) ?_
 refine D_done (by kernel_rfl) ?_
 obtain rfl := rt (v := (i64 ((i64 (2 * (p.Bytes.length : Int))) - y))) h
 refine T_ret (retq ?_ (.one (.tmp rfl (Dat.view (.b rfl)))))
 rfl

theorem ok_salvage_halfOf {b : List Int} {i : Int} {r : Int} (h : salvage_halfOf b i = some r) :
  CSpec Tryd.prog gl0 55 [.sl 5 (List.map R5 b), .int .i64 i] (.int .u8 r) := by
 unfold salvage_halfOf at h
 replace h := bnd0 h
 refine spec_of (by kernel_rfl) Tryd.func55 rfl rfl ?_
 intro w0 A
 refine T_seq (T_reg ?_)
 refine R_q _ rfl (v_assign (ov rfl)) ?_
 refine R_nil ?_
 refine T_seq (T_reg ?_)
 refine R_q _ rfl (v_move (ov rfl)) ?_
 refine R_q _ rfl (v_move (ov rfl)) ?_
 obtain ⟨q, h_q, h⟩ := bnd h
 refine R_q _ rfl (v_quoG (ov rfl) (ov rfl) h_q) ?_
 obtain ⟨x, h_x, h⟩ := bnd h
 refine R_q _ rfl (v_ixSG (ov rfl) (ov rfl) tL33 h_x) ?_
 refine R_q _ rfl (v_loadS_r (ov rfl) tS5 rfl) ?_
 refine R_q _ rfl (v_move (ov rfl)) ?_
 obtain ⟨q2, h_q2, h⟩ := bnd h
 refine R_q _ rfl (v_remG (ov rfl) (ov rfl) h_q2) ?_
 refine R_q _ rfl (v_mul (ov rfl) (ov rfl) rfl) ?_
 refine R_q _ rfl (v_sub (ov rfl) (ov rfl) rfl) ?_
 obtain ⟨q3, h_q3, h⟩ := bnd h
 refine R_q _ rfl (v_shrG (ov rfl) (ov rfl) h_q3) ?_
 refine R_q _ rfl (v_and_ (ov rfl) (ov rfl)) ?_
 refine R_q _ rfl (v_assign (ov rfl)) ?_
 refine R_nil ?_
 obtain rfl := rt (v := (band .u8 q3 15)) h
 refine T_ret (retq ?_ (.one (.tmp rfl (Dat.view (.b rfl)))))
 rfl

theorem ok_salvage_halves {p : api_Piece} {r : (List Int)} (h : salvage_halves p = some r) :
  CSpec Tryd.prog gl0 27 [.agg [.sl 5 (List.map R5 p.Bytes), .bool p.Half]] (.sl 5 (List.map R5 r)) := by
 unfold salvage_halves at h
 replace h := bnd0 h
 refine spec_of (by kernel_rfl) Tryd.func27 rfl rfl ?_
 intro w0 A
 refine T_seq (T_reg ?_)
 refine R_q _ rfl (v_boxD (cva (ov rfl)) rfl tZ_35 rfl) ?_
 refine R_q _ rfl (v_assign (ov rfl)) ?_
 refine R_nil ?_
 refine T_keep (kc 1 rfl <| kn) rfl ?_
 refine T_seq (T_reg ?_)
 refine R_q _ rfl (v_loadA_r (ov rfl) tA35 rfl rfl) ?_
 obtain ⟨y, h_y, h⟩ := bnd h
 refine R_q _ rfl (v_call (ok_salvage_length h_y) (.cons (ov rfl) (.aggB rfl) <| .nil)) ?_
 obtain ⟨l, h_l, h⟩ := bnd h
 refine R_w _ _ rfl (w_makeG [none] (r := 0) (f := R5) (z0 := 0) rfl (ov rfl) (ov rfl) tL33 rfl tZ5 rfl rfl h_l) ?_
 refine R_q _ rfl (v_assign (ov rfl)) ?_
 refine R_nil ?_
 refine T_joinG id (t1 fun out => ⟨[(3, .own 0 out.length)], [some ⟨5, List.map R5 out⟩]⟩) h (fun h => ?_) (fun j h => ?_)
 ·
  refine T_keep (kc 1 rfl <| kc 3 rfl <| kn) rfl ?_
  refine T_seq (T_reg ?_)
  refine R_q _ rfl (v_move (ov rfl)) ?_
  refine R_q _ rfl (v_lenO (ov rfl) rfl rfl tL33) ?_
  refine R_q _ rfl (v_move (ov rfl)) ?_
  refine R_nil ?_
  refine T_block ?_
  obtain ⟨r1, hl1, ho1⟩ := bndL h
  refine T_loopG _ (t2 fun out2 i => ⟨[(1, .rp [.sl 5 (List.map R5 p.Bytes), .bool p.Half] 0), (3, .own 0 out2.length), (9, .int .i64 (l.length : Int)), (10, .int .i64 i)], [some ⟨5, List.map R5 out2⟩]⟩) _ hl1 (Ent.sel [some 0] (sd 1 rfl rfl <| sr 3 rfl (.own _ rfl) <| sd 9 rfl rfl <| sd 10 rfl rfl <| sn) (.cons rfl (roM D5) <| .nil) rfl rfl) (fun n1 s1 h => ?_)
  obtain ⟨out2, i⟩ := s1
  replace h := t2i h
  refine t2T ?_
  unfold salvage_halves_L1 at h
  refine T_seq (T_reg ?_)
  refine R_q _ rfl (v_lss (ov rfl) (ov rfl)) ?_
  refine R_nil ?_
  refine T_seq ?_
  refine T_if h rfl (fun b11 h => ?_) (fun b11 h => ?_)
  ·
   refine T_skip ?_
   refine T_seq ?_
   refine T_block ?_
   refine T_keep (kc 1 rfl <| kc 3 rfl <| kc 9 rfl <| kc 10 rfl <| kn) rfl ?_
   refine T_seq (T_reg ?_)
   refine R_q _ rfl (v_move (ov rfl)) ?_
   refine R_q _ rfl (v_assign (ov rfl)) ?_
   refine R_nil ?_
   refine T_keep (kc 1 rfl <| kc 3 rfl <| kc 4 rfl <| kc 9 rfl <| kc 10 rfl <| kn) rfl ?_
   refine T_draw (cw := md0) (by kernel_rfl) ?_
   refine D_q0 0 _ rfl (by kernel_rfl) rfl rfl (v_move (ov rfl)) ?_
   refine D_q0 1 _ rfl (by kernel_rfl) rfl rfl (v_move (ov rfl)) ?_
   refine D_q0 2 _ rfl (by kernel_rfl) rfl rfl (v_fieldR (ov rfl) tF35_0) ?_
   refine D_q0 3 _ rfl (by kernel_rfl) rfl rfl (v_loadS_r (ov rfl) tS33 rfl) ?_
   refine D_q0 4 _ rfl (by kernel_rfl) rfl rfl (v_move (ov rfl)) ?_
   refine D_q0 5 _ rfl (by kernel_rfl) rfl rfl (v_loadA_r (ov rfl) tA35 rfl rfl) ?_
   obtain ⟨y2, h_y2, h⟩ := bnd h
   refine D_q0 6 _ rfl (by kernel_rfl) rfl rfl (v_call (ok_salvage_ahead h_y2) (.cons (ov rfl) (.aggB rfl) <| .nil)) ?_
   refine D_q0 7 _ rfl (by kernel_rfl) rfl rfl (v_add (ov rfl) (ov rfl) rfl) ?_
   obtain ⟨y3, h_y3, h⟩ := bnd h
   refine D_q0 8 _ rfl (by kernel_rfl) rfl rfl (v_call (ok_salvage_halfOf h_y3) (.cons (ov rfl) (.b rfl) <| .cons (ov rfl) (.b rfl) <| .nil)) ?_
   obtain ⟨x, h_x, h⟩ := bnd h
   refine D_q0 9 _ rfl (by kernel_rfl) rfl rfl (v_ixOG (ov rfl) (ov rfl) tL33 rfl rfl h_x) ?_
   refine D_one 10 _ _ rfl (by kernel_rfl) rfl rfl (fun h => by cases h) (fun h => by cases h) (w_storeR (u' := y3) (ov rfl) (ov rfl) (cells_scal tS5) rfl rfl h_x rfl (cell1_all rfl) rfl) ?_
   refine D_done (by kernel_rfl) ?_
   refine T_keep (kc 1 rfl <| kc 3 rfl <| kc 9 rfl <| kc 10 rfl <| kn) rfl ?_
   refine T_reg ?_
   refine R_q _ rfl (v_add (ov rfl) (ov rfl) rfl) ?_
   refine R_q _ rfl (v_move (ov rfl)) ?_
   refine R_nil ?_
   exact ⟨((out2.set i.toNat y3), (i64 (i + 1))), h, Ent.sel [some 0] (sd 1 rfl rfl <| sr 3 rfl (ownE (Eq.symm ((List.length_set ..).trans rfl)) rfl) <| sd 9 rfl rfl <| sd 10 rfl rfl <| sn) (.cons rfl (roM D5) <| .nil) rfl rfl⟩
  ·
   refine T_exit ?_
   rw [lx h] at ho1
   replace h := ho1
   exact ⟨out2, h, Ent.sel [some 0] (sr 3 rfl (.own _ rfl) <| sn) (.cons rfl (roM D5) <| .nil) rfl rfl⟩
 ·
  obtain ⟨out, rfl⟩ : ∃ x, x = j := ⟨_, rfl⟩
  replace h := t1i h
  refine t1T ?_
  refine T_seq (T_reg ?_)
  refine R_q _ rfl (v_move (ov rfl)) ?_
  refine R_q _ rfl (v_assign (ov rfl)) ?_
  refine R_nil ?_
  obtain rfl := rt (v := out) h
  refine T_ret (retq ?_ (.one (.tmp rfl (View.ownM rfl rfl D5))))
  rfl

theorem ok_salvage_wordAt {h_ : List Int} {r : Int} (h : salvage_wordAt h_ = some r) :
  CSpec Tryd.prog gl0 54 [.sl 5 (List.map R5 h_)] (.int .u16 r) := by
 unfold salvage_wordAt at h
 replace h := bnd0 h
 refine spec_of (by kernel_rfl) Tryd.func54 rfl rfl ?_
 intro w0 A
 refine T_seq (T_reg ?_)
 refine R_q _ rfl (v_assign (ov rfl)) ?_
 refine R_nil ?_
 refine T_seq (T_draw (cw := md0) (by kernel_rfl) ?_)
 refine D_q0 0 _ rfl (by kernel_rfl) rfl rfl (v_move (ov rfl)) ?_
 obtain ⟨x, h_x, h⟩ := bnd h
 refine D_q0 1 _ rfl (by kernel_rfl) rfl rfl (v_ixSG (ov rfl) (ov rfl) tL33 h_x) ?_
 refine D_q0 2 _ rfl (by kernel_rfl) rfl rfl (v_loadS_r (ov rfl) tS5 rfl) ?_
 refine D_q0 3 _ rfl (by kernel_rfl) rfl rfl (v_conv (ov rfl) tI5 tI36 rfl) ?_
 obtain ⟨q, h_q, h⟩ := bnd h
 refine D_q0 4 _ rfl (by kernel_rfl) rfl rfl (v_shlG (ov rfl) (ov rfl) h_q) ?_
 refine D_q0 5 _ rfl (by kernel_rfl) rfl rfl (v_move (ov rfl)) ?_
 obtain ⟨x2, h_x2, h⟩ := bnd h
 refine D_q0 6 _ rfl (by kernel_rfl) rfl rfl (v_ixSG (ov rfl) (ov rfl) tL33 h_x2) ?_
 refine D_q0 7 _ rfl (by kernel_rfl) rfl rfl (v_loadS_r (ov rfl) tS5 rfl) ?_
 refine D_q0 8 _ rfl (by kernel_rfl) rfl rfl (v_conv (ov rfl) tI5 tI36 rfl) ?_
 obtain ⟨q2, h_q2, h⟩ := bnd h
 refine D_q0 9 _ rfl (by kernel_rfl) rfl rfl (v_shlG (ov rfl) (ov rfl) h_q2) ?_
 refine D_q0 10 _ rfl (by kernel_rfl) rfl rfl (v_or_ (ov rfl) (ov rfl)) ?_
 refine D_q0 11 _ rfl (by kernel_rfl) rfl rfl (v_move (ov rfl)) ?_
 obtain ⟨x3, h_x3, h⟩ := bnd h
 refine D_q0 12 _ rfl (by kernel_rfl) rfl rfl (v_ixSG (ov rfl) (ov rfl) tL33 h_x3) ?_
 refine D_q0 13 _ rfl (by kernel_rfl) rfl rfl (v_loadS_r (ov rfl) tS5 rfl) ?_
 refine D_q0 14 _ rfl (by kernel_rfl) rfl rfl (v_conv (ov rfl) tI5 tI36 rfl) ?_
 refine D_q0 15 _ rfl (by kernel_rfl) rfl rfl (v_or_ (ov rfl) (ov rfl)) ?_
 refine D_q0 16 _ rfl (by kernel_rfl) rfl rfl (v_assign (ov rfl)) ?_
 refine D_done (by kernel_rfl) ?_
 obtain rfl := rt (v := (bor .u16 (bor .u16 q q2) (u16 x3))) h
 refine T_ret (retq ?_ (.one (.tmp rfl (Dat.view (.b rfl)))))
 rfl

theorem ok_salvage_partly {h_ : List Int} {at_ : Int} {r : (Vector Int 64) × (Vector Bool 64)} (h : salvage_partly h_ at_ = some r) :
  CSpec Tryd.prog gl0 26 [.sl 5 (List.map R5 h_), .int .i64 at_] (.tuple [.agg (List.map C36 r.1.toList), .agg (List.map C4 r.2.toList)]) := by
 unfold salvage_partly at h
 replace h := bnd0 h
 refine spec_of (by kernel_rfl) Tryd.func26 rfl rfl ?_
 intro w0 A
 refine T_seq (T_reg ?_)
 refine R_w _ _ rfl (w_alloc (row := (List.map C36 (Vector.replicate 64 0).toList)) 0 rfl tZ38 rfl tZ_38) ?_
 refine R_w _ _ rfl (w_alloc (row := (List.map C4 (Vector.replicate 64 false).toList)) 1 rfl tZ39 rfl tZ_39) ?_
 refine R_nil ?_
 refine T_joinG id (t2 fun f whole => ⟨[(4, .ptr 0 1 0 0), (5, .ptr 1 1 0 0)], [some ⟨38, [(List.map C36 f.toList)]⟩, some ⟨39, [(List.map C4 whole.toList)]⟩]⟩) h (fun h => ?_) (fun j h => ?_)
 ·
  refine T_seq (T_reg ?_)
  refine R_q _ rfl (v_move (ov rfl)) ?_
  refine R_nil ?_
  refine T_block ?_
  obtain ⟨r1, hl1, ho1⟩ := bndL h
  refine T_loopG _ (t3 fun f2 whole2 i => ⟨[(0, .sl 5 (List.map R5 h_)), (1, .int .i64 at_), (4, .ptr 0 1 0 0), (5, .ptr 1 1 0 0), (8, .int .i64 i)], [some ⟨38, [(List.map C36 f2.toList)]⟩, some ⟨39, [(List.map C4 whole2.toList)]⟩]⟩) _ hl1 (Ent.sel [some 0, some 1] (sd 0 rfl rfl <| sd 1 rfl rfl <| sr 4 rfl (.ptr _ _ _ rfl) <| sr 5 rfl (.ptr _ _ _ rfl) <| sd 8 rfl rfl <| sn) (.cons rfl (ro1 (by exact Eq.trans (b := 64) arL tZ_38.symm) (rld (arD fun _ => rfl))) <| .cons rfl (ro1 (by exact Eq.trans (b := 64) arL tZ_39.symm) (rld (arD fun _ => rfl))) <| .nil) rfl rfl) (fun n1 s1 h => ?_)
  obtain ⟨f2, whole2, i⟩ := s1
  replace h := t3i h
  refine t3T ?_
  unfold salvage_partly_L1 at h
  refine T_seq (T_reg ?_)
  refine R_q _ rfl (v_lss (ov rfl) (ov rfl)) ?_
  refine R_nil ?_
  refine T_seq ?_
  refine T_if h rfl (fun b9 h => ?_) (fun b9 h => ?_)
  ·
   refine T_skip ?_
   refine T_seq ?_
   refine T_block ?_
   refine T_keep (kc 0 rfl <| kc 1 rfl <| kc 4 rfl <| kc 5 rfl <| kc 8 rfl <| kn) rfl ?_
   refine T_seq (T_reg ?_)
   refine R_q _ rfl (v_move (ov rfl)) ?_
   refine R_q _ rfl (v_assign (ov rfl)) ?_
   refine R_nil ?_
   refine T_keep (kc 0 rfl <| kc 1 rfl <| kc 4 rfl <| kc 5 rfl <| kc 6 rfl <| kc 8 rfl <| kn) rfl ?_
   refine T_seq (T_reg ?_)
   refine R_q _ rfl (v_move (ov rfl)) ?_
   refine R_q _ rfl (v_move (ov rfl)) ?_
   refine R_q _ rfl (v_mul (ov rfl) (ov rfl) rfl) ?_
   refine R_q _ rfl (v_add (ov rfl) (ov rfl) rfl) ?_
   refine R_q _ rfl (v_assign (ov rfl)) ?_
   refine R_nil ?_
   refine T_keep (kc 0 rfl <| kc 1 rfl <| kc 4 rfl <| kc 5 rfl <| kc 6 rfl <| kc 7 rfl <| kc 8 rfl <| kn) rfl ?_
   refine T_seq (T_reg ?_)
   refine R_q _ rfl (v_move (ov rfl)) ?_
   refine R_q _ rfl (v_geq (ov rfl) (ov rfl)) ?_
   refine R_q _ rfl (v_move (ov rfl)) ?_
   refine R_q _ rfl (.guarded ((decide (0 ≤ (i64 (at_ + (i64 (3 * i)))))) == true) rfl rfl rfl rfl fun h => v_move (ov rfl)) ?_
   refine R_q _ rfl (.guarded ((decide (0 ≤ (i64 (at_ + (i64 (3 * i)))))) == true) rfl rfl rfl rfl fun h => v_add (ow rfl h) (ov rfl) rfl) ?_
   refine R_q _ rfl (.guarded ((decide (0 ≤ (i64 (at_ + (i64 (3 * i)))))) == true) rfl rfl rfl rfl fun h => v_move (ov rfl)) ?_
   refine R_q _ rfl (.guarded ((decide (0 ≤ (i64 (at_ + (i64 (3 * i)))))) == true) rfl rfl rfl rfl fun h => v_len (slv_sl (ow rfl h) tZ_5) tL33 (len_map _ _)) ?_
   refine R_q _ rfl (.guarded ((decide (0 ≤ (i64 (at_ + (i64 (3 * i)))))) == true) rfl rfl rfl rfl fun h => v_leq (ow rfl h) (ow rfl h)) ?_
   refine R_q _ rfl (v_and (ov rfl) (fun hp => ow rfl (gT hp))) ?_
   refine R_nil ?_
   refine T_keep (kc 0 rfl <| kc 1 rfl <| kc 4 rfl <| kc 5 rfl <| kc 6 rfl <| kc 7 rfl <| kc 8 rfl <| kc 23 rfl <| kn) rfl ?_
   refine T_if h rfl (fun b23 h => ?_) (fun b23 h => ?_)
   ·
    refine T_keep (kc 0 rfl <| kc 1 rfl <| kc 4 rfl <| kc 5 rfl <| kc 6 rfl <| kc 7 rfl <| kc 8 rfl <| kn) rfl ?_
    refine T_reg ?_
    refine R_q _ rfl (v_move (ov rfl)) ?_
    refine R_q _ rfl (v_move (ov rfl)) ?_
    refine R_q _ rfl (v_move (ov rfl)) ?_
    refine R_q _ rfl (v_move (ov rfl)) ?_
    refine R_q _ rfl (v_move (ov rfl)) ?_
    refine R_q _ rfl (v_add (ov rfl) (ov rfl) rfl) ?_
    obtain ⟨l, h_l, h⟩ := bnd h
    refine R_q _ rfl (v_sliceG (ov rfl) tL33 (oi (ov rfl)) (oi (ov rfl)) h_l) ?_
    obtain ⟨y, h_y, h⟩ := bnd h
    refine R_q _ rfl (v_call (ok_salvage_wordAt h_y) (.cons (ov rfl) (.b rfl) <| .nil)) ?_
    obtain ⟨x, h_x, h⟩ := bnd h
    refine R_q _ rfl (v_ixAG (ov rfl) (ov rfl) tR38 rfl rfl h_x) ?_
    refine R_w _ _ rfl (w_store (ov rfl) (ov rfl) (cells_scal tS36) rfl rfl rfl (arB h_x) (cell1_all rfl) (arS h_x)) ?_
    obtain ⟨x2, h_x2, h⟩ := bnd h
    refine R_q _ rfl (v_ixAG (ov rfl) (ov rfl) tR39 rfl rfl h_x2) ?_
    refine R_w _ _ rfl (w_store (ov rfl) (ov rfl) (cells_scal tS4) rfl rfl rfl (arB h_x2) (cell1_all rfl) (arS h_x2)) ?_
    refine R_nil ?_
    refine T_keep (kc 0 rfl <| kc 1 rfl <| kc 4 rfl <| kc 5 rfl <| kc 8 rfl <| kn) rfl ?_
    refine T_reg ?_
    refine R_q _ rfl (v_add (ov rfl) (ov rfl) rfl) ?_
    refine R_q _ rfl (v_move (ov rfl)) ?_
    refine R_nil ?_
    exact ⟨((vset f2 i y), (vset whole2 i true), (i64 (i + 1))), h, Ent.sel [some 0, some 1] (sd 0 rfl rfl <| sd 1 rfl rfl <| sr 4 rfl (.ptr _ _ _ rfl) <| sr 5 rfl (.ptr _ _ _ rfl) <| sd 8 rfl rfl <| sn) (.cons rfl (ro1 (by exact Eq.trans (b := 64) arL tZ_38.symm) (rld (arD fun _ => rfl))) <| .cons rfl (ro1 (by exact Eq.trans (b := 64) arL tZ_39.symm) (rld (arD fun _ => rfl))) <| .nil) rfl rfl⟩
   ·
    refine T_skip ?_
    refine T_keep (kc 0 rfl <| kc 1 rfl <| kc 4 rfl <| kc 5 rfl <| kc 8 rfl <| kn) rfl ?_
    refine T_reg ?_
    refine R_q _ rfl (v_add (ov rfl) (ov rfl) rfl) ?_
    refine R_q _ rfl (v_move (ov rfl)) ?_
    refine R_nil ?_
    exact ⟨(f2, whole2, (i64 (i + 1))), h, Ent.sel [some 0, some 1] (sd 0 rfl rfl <| sd 1 rfl rfl <| sr 4 rfl (.ptr _ _ _ rfl) <| sr 5 rfl (.ptr _ _ _ rfl) <| sd 8 rfl rfl <| sn) (.cons rfl (ro1 (by exact Eq.trans (b := 64) arL tZ_38.symm) (rld (arD fun _ => rfl))) <| .cons rfl (ro1 (by exact Eq.trans (b := 64) arL tZ_39.symm) (rld (arD fun _ => rfl))) <| .nil) rfl rfl⟩
  ·
   refine T_exit ?_
   rw [lx h] at ho1
   replace h := ho1
   exact ⟨(f2, whole2), h, Ent.sel [some 0, some 1] (sr 4 rfl (.ptr _ _ _ rfl) <| sr 5 rfl (.ptr _ _ _ rfl) <| sn) (.cons rfl (ro1 (by exact Eq.trans (b := 64) arL tZ_38.symm) (rld (arD fun _ => rfl))) <| .cons rfl (ro1 (by exact Eq.trans (b := 64) arL tZ_39.symm) (rld (arD fun _ => rfl))) <| .nil) rfl rfl⟩
 ·
  obtain ⟨f, whole⟩ := j
  replace h := t2i h
  refine t2T ?_
  refine T_seq (T_draw (cw := md0) (by kernel_rfl) ?_)
  refine D_q0 0 _ rfl (by kernel_rfl) rfl rfl (v_loadA (ov rfl) rfl rfl rfl tA38 (at_sub (at_all arL)) arL (hns := (nsM fun _ => rfl))) ?_
  refine D_twoQ 1 2 rfl rfl (by kernel_rfl) rfl rfl rfl rfl (fun h => by cases h) (fun h => by cases h) (v_loadA (ov rfl) rfl rfl rfl tA39 (at_sub (at_all arL)) arL (hns := (nsM fun _ => rfl))) (w_store (ov rfl) (ov rfl) (cells_agg tA38 arL) rfl rfl rfl (put_le (at_all arL) arL) (cell1_all (arC fun _ => rfl)) (put_all (Eq.trans arL (Eq.symm arL)))) ?_ ?_
  ·
   refine D_one 2 _ _ rfl (by kernel_rfl) rfl rfl (fun h => by cases h) (fun h => by cases h) (w_store (ov rfl) (ov rfl) (cells_agg tA38 arL) rfl rfl rfl (put_le (at_all arL) arL) (cell1_all (arC fun _ => rfl)) (put_all (Eq.trans arL (Eq.symm arL)))) ?_
   refine D_one 3 _ _ rfl (by kernel_rfl) rfl rfl (fun h => by cases h) (fun h => by cases h) (w_store (ov rfl) (ov rfl) (cells_agg tA39 arL) rfl rfl rfl (put_le (at_all arL) arL) (cell1_all (arC fun _ => rfl)) (put_all (Eq.trans arL (Eq.symm arL)))) ?_
   refine D_done (by kernel_rfl) ?_
   obtain rfl := rt (v := (f, whole)) h
   refine T_ret (retq ?_ (.two (.agg rfl rfl rfl rfl tA38 (at_sub (at_all arL)) arL (pwB (arD fun _ => rfl)) (hns := (nsM fun _ => rfl))) (.agg rfl rfl rfl rfl tA39 (at_sub (at_all arL)) arL (pwB (arD fun _ => rfl)) (hns := (nsM fun _ => rfl)))))
   rfl
  ·
   refine D_q0 1 _ rfl (by kernel_rfl) rfl rfl (v_loadA (ov rfl) rfl rfl rfl tA39 (at_sub (at_all arL)) arL (hns := (nsM fun _ => rfl))) ?_
   refine D_one 3 _ _ rfl (by kernel_rfl) rfl rfl (fun h => by cases h) (fun h => by cases h) (w_store (ov rfl) (ov rfl) (cells_agg tA39 arL) rfl rfl rfl (put_le (at_all arL) arL) (cell1_all (arC fun _ => rfl)) (put_all (Eq.trans arL (Eq.symm arL)))) ?_
   refine D_done (by kernel_rfl) ?_
   obtain rfl := rt (v := (f, whole)) h
   refine T_ret (retq ?_ (.two (.agg rfl rfl rfl rfl tA38 (at_sub (at_all arL)) arL (pwB (arD fun _ => rfl)) (hns := (nsM fun _ => rfl))) (.agg rfl rfl rfl rfl tA39 (at_sub (at_all arL)) arL (pwB (arD fun _ => rfl)) (hns := (nsM fun _ => rfl)))))
   rfl

theorem ok_salvage_FrameAt {p : api_Piece} {at_ : Int} {r : (Vector Int 64) × (Vector Bool 64) × Int} (h : salvage_FrameAt p at_ = some r) :
  CSpec Tryd.prog gl0 9 [.agg [.sl 5 (List.map R5 p.Bytes), .bool p.Half], .int .i64 at_] (.tuple [.agg (List.map C36 r.1.toList), .agg (List.map C4 r.2.1.toList), .int .i64 r.2.2]) := by
 unfold salvage_FrameAt at h
 replace h := bnd0 h
 refine spec_of (by kernel_rfl) Tryd.func9 rfl rfl ?_
 intro w0 A
 refine T_seq (T_reg ?_)
 refine R_q _ rfl (v_boxD (cva (ov rfl)) rfl tZ_35 rfl) ?_
 refine R_w _ _ rfl (w_alloc (row := (List.map C36 (Vector.replicate 64 0).toList)) 0 rfl tZ38 rfl tZ_38) ?_
 refine R_w _ _ rfl (w_alloc (row := (List.map C4 (Vector.replicate 64 false).toList)) 1 rfl tZ39 rfl tZ_39) ?_
 refine R_q _ rfl (v_assign (ov rfl)) ?_
 refine R_nil ?_
 refine T_seq ?_
 refine T_keep (kc 1 rfl <| kc 2 rfl <| kc 4 rfl <| kc 5 rfl <| kn) rfl ?_
 refine T_seq (T_reg ?_)
 refine R_q _ rfl (v_loadA_r (ov rfl) tA35 rfl rfl) ?_
 obtain ⟨y, h_y, h⟩ := bnd h
 refine R_q _ rfl (v_call (ok_salvage_CheckPiece h_y) (.cons (ov rfl) (.aggB rfl) <| .nil)) ?_
 refine R_q _ rfl (v_assign (ov rfl)) ?_
 refine R_nil ?_
 refine T_keep (kc 1 rfl <| kc 2 rfl <| kc 4 rfl <| kc 5 rfl <| kc 7 rfl <| kn) rfl ?_
 refine T_seq (T_reg ?_)
 refine R_q _ rfl (v_move (ov rfl)) ?_
 refine R_q _ rfl (v_neq (ov rfl) (ov rfl)) ?_
 refine R_nil ?_
 refine T_keep (kc 1 rfl <| kc 2 rfl <| kc 4 rfl <| kc 5 rfl <| kc 7 rfl <| kc 13 rfl <| kn) rfl ?_
 refine T_if h rfl (fun b13 h => ?_) (fun b13 h => ?_)
 ·
  refine T_keep (kc 4 rfl <| kc 5 rfl <| kc 7 rfl <| kn) rfl ?_
  refine T_seq (T_reg ?_)
  refine R_q (.agg (List.map C36 (#v[0, 0, 0, 0, 0, 0, 0, 0, 0, 0, 0, 0, 0, 0, 0, 0, 0, 0, 0, 0, 0, 0, 0, 0, 0, 0, 0, 0, 0, 0, 0, 0, 0, 0, 0, 0, 0, 0, 0, 0, 0, 0, 0, 0, 0, 0, 0, 0, 0, 0, 0, 0, 0, 0, 0, 0, 0, 0, 0, 0, 0, 0, 0, 0] : Vector Int 64).toList)) rfl (v_buildA (ys := [_, _, _, _, _, _, _, _, _, _, _, _, _, _, _, _, _, _, _, _, _, _, _, _, _, _, _, _, _, _, _, _, _, _, _, _, _, _, _, _, _, _, _, _, _, _, _, _, _, _, _, _, _, _, _, _, _, _, _, _, _, _, _, _]) tR38 tZ38 (.nil) rfl) ?_
  refine R_q (.agg (List.map C4 (#v[false, false, false, false, false, false, false, false, false, false, false, false, false, false, false, false, false, false, false, false, false, false, false, false, false, false, false, false, false, false, false, false, false, false, false, false, false, false, false, false, false, false, false, false, false, false, false, false, false, false, false, false, false, false, false, false, false, false, false, false, false, false, false, false] : Vector Bool 64).toList)) rfl (v_buildA (ys := [_, _, _, _, _, _, _, _, _, _, _, _, _, _, _, _, _, _, _, _, _, _, _, _, _, _, _, _, _, _, _, _, _, _, _, _, _, _, _, _, _, _, _, _, _, _, _, _, _, _, _, _, _, _, _, _, _, _, _, _, _, _, _, _]) tR39 tZ39 (.nil) rfl) ?_
  refine R_q _ rfl (v_move (ov rfl)) ?_
  refine R_w _ _ rfl (w_store (ov rfl) (ov rfl) (cells_agg tA38 arL) rfl rfl rfl (put_le (at_all arL) arL) (cell1_all (arC fun _ => rfl)) (put_all (Eq.trans arL (Eq.symm arL)))) ?_
  refine R_w _ _ rfl (w_store (ov rfl) (ov rfl) (cells_agg tA39 arL) rfl rfl rfl (put_le (at_all arL) arL) (cell1_all (arC fun _ => rfl)) (put_all (Eq.trans arL (Eq.symm arL)))) ?_
  refine R_q _ rfl (v_assign (ov rfl)) ?_
  refine R_nil ?_
  obtain rfl := rt (v := ((#v[0, 0, 0, 0, 0, 0, 0, 0, 0, 0, 0, 0, 0, 0, 0, 0, 0, 0, 0, 0, 0, 0, 0, 0, 0, 0, 0, 0, 0, 0, 0, 0, 0, 0, 0, 0, 0, 0, 0, 0, 0, 0, 0, 0, 0, 0, 0, 0, 0, 0, 0, 0, 0, 0, 0, 0, 0, 0, 0, 0, 0, 0, 0, 0] : Vector Int 64), (#v[false, false, false, false, false, false, false, false, false, false, false, false, false, false, false, false, false, false, false, false, false, false, false, false, false, false, false, false, false, false, false, false, false, false, false, false, false, false, false, false, false, false, false, false, false, false, false, false, false, false, false, false, false, false, false, false, false, false, false, false, false, false, false, false] : Vector Bool 64), y)) h
  refine T_ret (retq ?_ (.three (.agg rfl rfl rfl rfl tA38 (at_sub (at_all arL)) arL (pwB (arD fun _ => rfl)) (hns := (nsM fun _ => rfl))) (.agg rfl rfl rfl rfl tA39 (at_sub (at_all arL)) arL (pwB (arD fun _ => rfl)) (hns := (nsM fun _ => rfl))) (.tmp rfl (Dat.view (.b rfl)))))
  rfl
 ·
  refine T_skip ?_
  refine T_seq ?_
  refine T_keep (kc 1 rfl <| kc 2 rfl <| kc 4 rfl <| kc 5 rfl <| kn) rfl ?_
  refine T_seq (T_reg ?_)
  refine R_q _ rfl (v_move (ov rfl)) ?_
  refine R_q _ rfl (v_leq (ov rfl) (ov rfl)) ?_
  refine R_q _ rfl (v_move (ov rfl)) ?_
  refine R_q _ rfl (.guarded ((decide (at_ ≤ (-192))) == false) rfl rfl rfl rfl fun h => v_move (ov rfl)) ?_
  refine R_q _ rfl (.guarded ((decide (at_ ≤ (-192))) == false) rfl rfl rfl rfl fun h => v_loadA_r (ov rfl) tA35 rfl rfl) ?_
  obtain ⟨y2, h_y2, h⟩ := bnd h
  refine R_q _ rfl (.guarded ((decide (at_ ≤ (-192))) == false) rfl rfl rfl rfl fun h => v_call (ok_salvage_length (gdT h_y2 h)) (.cons (ow rfl h) (.aggB rfl) <| .nil)) ?_
  refine R_q _ rfl (.guarded ((decide (at_ ≤ (-192))) == false) rfl rfl rfl rfl fun h => v_geq (ow rfl h) (ow rfl h)) ?_
  refine R_q _ rfl (v_or (ov rfl) (fun hp => ow rfl (gF hp))) ?_
  refine R_nil ?_
  refine T_keep (kc 1 rfl <| kc 2 rfl <| kc 4 rfl <| kc 5 rfl <| kc 24 rfl <| kn) rfl ?_
  refine T_if h rfl (fun b24 h => ?_) (fun b24 h => ?_)
  ·
   refine T_keep (kc 4 rfl <| kc 5 rfl <| kn) rfl ?_
   refine T_seq (T_reg ?_)
   refine R_q (.agg (List.map C36 (#v[0, 0, 0, 0, 0, 0, 0, 0, 0, 0, 0, 0, 0, 0, 0, 0, 0, 0, 0, 0, 0, 0, 0, 0, 0, 0, 0, 0, 0, 0, 0, 0, 0, 0, 0, 0, 0, 0, 0, 0, 0, 0, 0, 0, 0, 0, 0, 0, 0, 0, 0, 0, 0, 0, 0, 0, 0, 0, 0, 0, 0, 0, 0, 0] : Vector Int 64).toList)) rfl (v_buildA (ys := [_, _, _, _, _, _, _, _, _, _, _, _, _, _, _, _, _, _, _, _, _, _, _, _, _, _, _, _, _, _, _, _, _, _, _, _, _, _, _, _, _, _, _, _, _, _, _, _, _, _, _, _, _, _, _, _, _, _, _, _, _, _, _, _]) tR38 tZ38 (.nil) rfl) ?_
   refine R_q (.agg (List.map C4 (#v[false, false, false, false, false, false, false, false, false, false, false, false, false, false, false, false, false, false, false, false, false, false, false, false, false, false, false, false, false, false, false, false, false, false, false, false, false, false, false, false, false, false, false, false, false, false, false, false, false, false, false, false, false, false, false, false, false, false, false, false, false, false, false, false] : Vector Bool 64).toList)) rfl (v_buildA (ys := [_, _, _, _, _, _, _, _, _, _, _, _, _, _, _, _, _, _, _, _, _, _, _, _, _, _, _, _, _, _, _, _, _, _, _, _, _, _, _, _, _, _, _, _, _, _, _, _, _, _, _, _, _, _, _, _, _, _, _, _, _, _, _, _]) tR39 tZ39 (.nil) rfl) ?_
   refine R_w _ _ rfl (w_store (ov rfl) (ov rfl) (cells_agg tA38 arL) rfl rfl rfl (put_le (at_all arL) arL) (cell1_all (arC fun _ => rfl)) (put_all (Eq.trans arL (Eq.symm arL)))) ?_
   refine R_w _ _ rfl (w_store (ov rfl) (ov rfl) (cells_agg tA39 arL) rfl rfl rfl (put_le (at_all arL) arL) (cell1_all (arC fun _ => rfl)) (put_all (Eq.trans arL (Eq.symm arL)))) ?_
   refine R_q _ rfl (v_assign (ov rfl)) ?_
   refine R_nil ?_
   obtain rfl := rt (v := ((#v[0, 0, 0, 0, 0, 0, 0, 0, 0, 0, 0, 0, 0, 0, 0, 0, 0, 0, 0, 0, 0, 0, 0, 0, 0, 0, 0, 0, 0, 0, 0, 0, 0, 0, 0, 0, 0, 0, 0, 0, 0, 0, 0, 0, 0, 0, 0, 0, 0, 0, 0, 0, 0, 0, 0, 0, 0, 0, 0, 0, 0, 0, 0, 0] : Vector Int 64), (#v[false, false, false, false, false, false, false, false, false, false, false, false, false, false, false, false, false, false, false, false, false, false, false, false, false, false, false, false, false, false, false, false, false, false, false, false, false, false, false, false, false, false, false, false, false, false, false, false, false, false, false, false, false, false, false, false, false, false, false, false, false, false, false, false] : Vector Bool 64), 9)) h
   refine T_ret (retq ?_ (.three (.agg rfl rfl rfl rfl tA38 (at_sub (at_all arL)) arL (pwB (arD fun _ => rfl)) (hns := (nsM fun _ => rfl))) (.agg rfl rfl rfl rfl tA39 (at_sub (at_all arL)) arL (pwB (arD fun _ => rfl)) (hns := (nsM fun _ => rfl))) (.tmp rfl (Dat.view (.b rfl)))))
   rfl
  ·
   refine T_skip ?_
   refine T_keep (kc 1 rfl <| kc 2 rfl <| kc 4 rfl <| kc 5 rfl <| kn) rfl ?_
   refine T_seq (T_reg ?_)
   refine R_q _ rfl (v_loadA_r (ov rfl) tA35 rfl rfl) ?_
   obtain ⟨y3, h_y3, h⟩ := bnd h
   refine R_q _ rfl (v_call (ok_salvage_halves h_y3) (.cons (ov rfl) (.aggB rfl) <| .nil)) ?_
   refine R_q _ rfl (v_move (ov rfl)) ?_
   obtain ⟨y4, h_y4, h⟩ := bnd h
   refine R_q _ rfl (v_call (ok_salvage_partly h_y4) (.cons (ov rfl) (.b rfl) <| .cons (ov rfl) (.b rfl) <| .nil)) ?_
   refine R_q _ rfl (v_move (ov rfl)) ?_
   refine R_q _ rfl (v_extract (ov rfl) rfl) ?_
   refine R_q _ rfl (v_extract (ov rfl) rfl) ?_
   refine R_w _ _ rfl (w_alloc (row := (List.map C36 (Vector.replicate 64 0).toList)) 2 rfl tZ38 rfl tZ_38) ?_
   refine R_w _ _ rfl (w_alloc (row := (List.map C4 (Vector.replicate 64 false).toList)) 3 rfl tZ39 rfl tZ_39) ?_
   refine R_w _ _ rfl (w_store (ov rfl) (ov rfl) (cells_agg tA38 arL) rfl rfl rfl (put_le (at_all arL) arL) (cell1_all (arC fun _ => rfl)) (put_all (Eq.trans arL (Eq.symm arL)))) ?_
   refine R_w _ _ rfl (w_store (ov rfl) (ov rfl) (cells_agg tA39 arL) rfl rfl rfl (put_le (at_all arL) arL) (cell1_all (arC fun _ => rfl)) (put_all (Eq.trans arL (Eq.symm arL)))) ?_
   refine R_nil ?_
   refine T_keep (kc 4 rfl <| kc 5 rfl <| kc 8 rfl <| kc 9 rfl <| kn) rfl ?_
   refine T_seq (T_draw (cw := md0) (by kernel_rfl) ?_)
   refine D_q0 0 _ rfl (by kernel_rfl) rfl rfl (v_loadA (ov rfl) rfl rfl rfl tA38 (at_sub (at_all arL)) arL (hns := (nsM fun _ => rfl))) ?_
   refine D_twoQ 1 2 rfl rfl (by kernel_rfl) rfl rfl rfl rfl (fun h => by cases h) (fun h => by cases h) (v_loadA (ov rfl) rfl rfl rfl tA39 (at_sub (at_all arL)) arL (hns := (nsM fun _ => rfl))) (w_store (ov rfl) (ov rfl) (cells_agg tA38 arL) rfl rfl rfl (put_le (at_all arL) arL) (cell1_all (arC fun _ => rfl)) (put_all (Eq.trans arL (Eq.symm arL)))) ?_ ?_
   ·
    refine D_one 2 _ _ rfl (by kernel_rfl) rfl rfl (fun h => by cases h) (fun h => by cases h) (w_store (ov rfl) (ov rfl) (cells_agg tA38 arL) rfl rfl rfl (put_le (at_all arL) arL) (cell1_all (arC fun _ => rfl)) (put_all (Eq.trans arL (Eq.symm arL)))) ?_
    refine D_one 3 _ _ rfl (by kernel_rfl) rfl rfl (fun h => by cases h) (fun h => by cases h) (w_store (ov rfl) (ov rfl) (cells_agg tA39 arL) rfl rfl rfl (put_le (at_all arL) arL) (cell1_all (arC fun _ => rfl)) (put_all (Eq.trans arL (Eq.symm arL)))) ?_
    refine D_q0 4 _ rfl (by kernel_rfl) rfl rfl (v_assign (ov rfl)) ?_
    refine D_done (by kernel_rfl) ?_
    obtain rfl := rt (v := (y4.1, y4.2, 0)) h
    refine T_ret (retq ?_ (.three (.agg rfl rfl rfl rfl tA38 (at_sub (at_all arL)) arL (pwB (arD fun _ => rfl)) (hns := (nsM fun _ => rfl))) (.agg rfl rfl rfl rfl tA39 (at_sub (at_all arL)) arL (pwB (arD fun _ => rfl)) (hns := (nsM fun _ => rfl))) (.tmp rfl (Dat.view (.b rfl)))))
    rfl
   ·
    refine D_q0 1 _ rfl (by kernel_rfl) rfl rfl (v_loadA (ov rfl) rfl rfl rfl tA39 (at_sub (at_all arL)) arL (hns := (nsM fun _ => rfl))) ?_
    refine D_one 3 _ _ rfl (by kernel_rfl) rfl rfl (fun h => by cases h) (fun h => by cases h) (w_store (ov rfl) (ov rfl) (cells_agg tA39 arL) rfl rfl rfl (put_le (at_all arL) arL) (cell1_all (arC fun _ => rfl)) (put_all (Eq.trans arL (Eq.symm arL)))) ?_
    refine D_q0 4 _ rfl (by kernel_rfl) rfl rfl (v_assign (ov rfl)) ?_
    refine D_done (by kernel_rfl) ?_
    obtain rfl := rt (v := (y4.1, y4.2, 0)) h
    refine T_ret (retq ?_ (.three (.agg rfl rfl rfl rfl tA38 (at_sub (at_all arL)) arL (pwB (arD fun _ => rfl)) (hns := (nsM fun _ => rfl))) (.agg rfl rfl rfl rfl tA39 (at_sub (at_all arL)) arL (pwB (arD fun _ => rfl)) (hns := (nsM fun _ => rfl))) (.tmp rfl (Dat.view (.b rfl)))))
    rfl

theorem ok_ref4_CheckPiece {p : api_Piece} {r : Int} (h : ref4_CheckPiece p = some r) :
  CSpec Tryd.prog gl0 28 [.agg [.sl 5 (List.map R5 p.Bytes), .bool p.Half]] (.int .i64 r) := by
 unfold ref4_CheckPiece at h
 replace h := bnd0 h
 refine spec_of (by kernel_rfl) Tryd.func28 rfl rfl ?_
 intro w0 A
 refine T_seq (T_reg ?_)
 refine R_q _ rfl (v_boxD (cva (ov rfl)) rfl tZ_35 rfl) ?_
 refine R_q _ rfl (v_assign (ov rfl)) ?_
 refine R_nil ?_
 refine T_seq ?_
 refine T_keep (kc 1 rfl <| kn) rfl ?_
 refine T_seq (T_reg ?_)
 refine R_q _ rfl (v_fieldR (ov rfl) tF35_0) ?_
 refine R_q _ rfl (v_loadS_r (ov rfl) tS33 rfl) ?_
 refine R_q _ rfl (v_len (slv_sl (ov rfl) tZ_5) tL33 (len_map _ _)) ?_
 refine R_q _ rfl (v_gtr (ov rfl) (ov rfl)) ?_
 refine R_nil ?_
 refine T_keep (kc 1 rfl <| kc 6 rfl <| kn) rfl ?_
 refine T_if h rfl (fun b6 h => ?_) (fun b6 h => ?_)
 ·
  refine T_keep (kn) rfl ?_
  refine T_seq (T_reg ?_)
  refine R_q _ rfl (v_assign (ov rfl)) ?_
  refine R_nil ?_
  obtain rfl := rt (v := 3) h
  refine T_ret (retq ?_ (.one (.tmp rfl (Dat.view (.b rfl)))))
  rfl
 ·
  refine T_skip ?_
  refine T_seq ?_
  refine T_keep (kc 1 rfl <| kn) rfl ?_
  refine T_seq (T_reg ?_)
  refine R_q _ rfl (v_fieldR (ov rfl) tF35_1) ?_
  refine R_q _ rfl (v_loadS_r (ov rfl) tS4 rfl) ?_
  refine R_q _ rfl (v_move (ov rfl)) ?_
  refine R_q _ rfl (.guarded (p.Half == true) rfl rfl rfl rfl fun h => v_fieldR (ov rfl) tF35_0) ?_
  refine R_q _ rfl (.guarded (p.Half == true) rfl rfl rfl rfl fun h => v_loadS_r (ow rfl h) tS33 rfl) ?_
  refine R_q _ rfl (.guarded (p.Half == true) rfl rfl rfl rfl fun h => v_len (slv_sl (ow rfl h) tZ_5) tL33 (len_map _ _)) ?_
  refine R_q _ rfl (.guarded (p.Half == true) rfl rfl rfl rfl fun h => v_eql (ow rfl h) (ov rfl)) ?_
  refine R_q _ rfl (.guarded (p.Half == true) rfl rfl rfl rfl fun h => v_move (ow rfl h)) ?_
  refine R_q _ rfl (.guarded2 ((p.Half == true) && ((decide ((p.Bytes.length : Int) = 0)) == false)) rfl rfl rfl rfl fun h => v_fieldR (ov rfl) tF35_0) ?_
  refine R_q _ rfl (.guarded2 ((p.Half == true) && ((decide ((p.Bytes.length : Int) = 0)) == false)) rfl rfl rfl rfl fun h => v_loadS_r (ow rfl h) tS33 rfl) ?_
  obtain ⟨x, h_x, h⟩ := bnd h
  refine R_q _ rfl (.guarded2 ((p.Half == true) && ((decide ((p.Bytes.length : Int) = 0)) == false)) rfl rfl rfl rfl fun h => v_ixSG (ow rfl h) (ov rfl) tL33 (gdT h_x h)) ?_
  refine R_q _ rfl (.guarded2 ((p.Half == true) && ((decide ((p.Bytes.length : Int) = 0)) == false)) rfl rfl rfl rfl fun h => v_loadS_r (ow rfl h) tS5 rfl) ?_
  refine R_q _ rfl (.guarded2 ((p.Half == true) && ((decide ((p.Bytes.length : Int) = 0)) == false)) rfl rfl rfl rfl fun h => v_gtr (ow rfl h) (ov rfl)) ?_
  refine R_q _ rfl (.guarded (p.Half == true) rfl rfl rfl rfl fun h => v_or (ow rfl h) (fun hp => ow rfl (gA h (gF hp)))) ?_
  refine R_q _ rfl (v_and (ov rfl) (fun hp => ow rfl (gT hp))) ?_
  refine R_nil ?_
  refine T_keep (kc 21 rfl <| kn) rfl ?_
  refine T_if h rfl (fun b21 h => ?_) (fun b21 h => ?_)
  ·
   refine T_keep (kn) rfl ?_
   refine T_seq (T_reg ?_)
   refine R_q _ rfl (v_assign (ov rfl)) ?_
   refine R_nil ?_
   obtain rfl := rt (v := 2) h
   refine T_ret (retq ?_ (.one (.tmp rfl (Dat.view (.b rfl)))))
   rfl
  ·
   refine T_skip ?_
   refine T_keep (kn) rfl ?_
   refine T_seq (T_reg ?_)
   refine R_q _ rfl (v_assign (ov rfl)) ?_
   refine R_nil ?_
   obtain rfl := rt (v := 0) h
   refine T_ret (retq ?_ (.one (.tmp rfl (Dat.view (.b rfl)))))
   rfl

theorem ok_ref4_Halves {p : api_Piece} {r : (List Int)} (h : ref4_Halves p = some r) :
  CSpec Tryd.prog gl0 29 [.agg [.sl 5 (List.map R5 p.Bytes), .bool p.Half]] (.sl 5 (List.map R5 r)) := by
 unfold ref4_Halves at h
 replace h := bnd0 h
 refine spec_of (by kernel_rfl) Tryd.func29 rfl rfl ?_
 intro w0 A
 refine T_seq (T_reg ?_)
 refine R_q _ rfl (v_boxD (cva (ov rfl)) rfl tZ_35 rfl) ?_
 refine R_q _ rfl (v_assign (ov rfl)) ?_
 refine R_nil ?_
 refine T_keep (kc 1 rfl <| kn) rfl ?_
 refine T_seq (T_reg ?_)
 refine R_q _ rfl (v_assign (ov rfl)) ?_
 refine R_nil ?_
 refine T_joinG id (t1 fun out => ⟨[(3, .own 0 out.length)], [some ⟨5, List.map R5 out⟩]⟩) h (fun h => ?_) (fun j h => ?_)
 ·
  refine T_seq (T_reg ?_)
  refine R_q _ rfl (v_fieldR (ov rfl) tF35_0) ?_
  refine R_q _ rfl (v_loadS_r (ov rfl) tS33 rfl) ?_
  refine R_q _ rfl (v_len (slv_sl (ov rfl) tZ_5) tL33 (len_map _ _)) ?_
  refine R_q _ rfl (v_move (ov rfl)) ?_
  refine R_nil ?_
  refine T_block ?_
  obtain ⟨r1, hl1, ho1⟩ := bndL h
  refine T_loopG _ (t2 fun out2 i => ⟨[(1, .rp [.sl 5 (List.map R5 p.Bytes), .bool p.Half] 0), (3, .own 0 out2.length), (7, .sl 5 (List.map R5 p.Bytes)), (8, .int .i64 (p.Bytes.length : Int)), (9, .int .i64 i)], [some ⟨5, List.map R5 out2⟩]⟩) _ hl1 (Ent.sel [none] (sd 1 rfl rfl <| sr 3 rfl (.row rfl) <| sd 7 rfl rfl <| sd 8 rfl rfl <| sd 9 rfl rfl <| sn) (.row 5 <| .nil) rfl rfl) (fun n1 s1 h => ?_)
  obtain ⟨out2, i⟩ := s1
  replace h := t2i h
  refine t2T ?_
  unfold ref4_Halves_L1 at h
  refine T_seq (T_reg ?_)
  refine R_q _ rfl (v_lss (ov rfl) (ov rfl)) ?_
  refine R_nil ?_
  refine T_seq ?_
  refine T_if h rfl (fun b10 h => ?_) (fun b10 h => ?_)
  ·
   refine T_skip ?_
   refine T_seq ?_
   refine T_block ?_
   refine T_keep (kc 1 rfl <| kc 3 rfl <| kc 7 rfl <| kc 8 rfl <| kc 9 rfl <| kn) rfl ?_
   refine T_seq (T_reg ?_)
   refine R_q _ rfl (v_move (ov rfl)) ?_
   obtain ⟨x, h_x, h⟩ := bnd h
   refine R_q _ rfl (v_ixSG (ov rfl) (ov rfl) tL33 h_x) ?_
   refine R_q _ rfl (v_loadS_r (ov rfl) tS5 rfl) ?_
   refine R_q _ rfl (v_assign (ov rfl)) ?_
   refine R_q _ rfl (v_assign (ov rfl)) ?_
   refine R_nil ?_
   refine T_joinG id (t1 fun out3 => ⟨[(1, .rp [.sl 5 (List.map R5 p.Bytes), .bool p.Half] 0), (3, .own 0 out3.length), (5, .int .u8 x), (7, .sl 5 (List.map R5 p.Bytes)), (8, .int .i64 (p.Bytes.length : Int)), (9, .int .i64 i)], [some ⟨5, List.map R5 out3⟩]⟩) h (fun h => ?_) (fun j h => ?_)
   ·
    refine T_keep (kc 1 rfl <| kc 3 rfl <| kc 4 rfl <| kc 5 rfl <| kc 7 rfl <| kc 8 rfl <| kc 9 rfl <| kn) rfl ?_
    refine T_seq (T_reg ?_)
    refine R_q _ rfl (v_move (ov rfl)) ?_
    refine R_q _ rfl (v_gtr (ov rfl) (ov rfl)) ?_
    refine R_q _ rfl (v_move (ov rfl)) ?_
    refine R_q _ rfl (.guarded ((decide (0 < i)) == false) rfl rfl rfl rfl fun h => v_fieldR (ov rfl) tF35_1) ?_
    refine R_q _ rfl (.guarded ((decide (0 < i)) == false) rfl rfl rfl rfl fun h => v_loadS_r (ow rfl h) tS4 rfl) ?_
    refine R_q _ rfl (.guarded ((decide (0 < i)) == false) rfl rfl rfl rfl fun h => v_not (ow rfl h)) ?_
    refine R_q _ rfl (v_or (ov rfl) (fun hp => ow rfl (gF hp))) ?_
    refine R_nil ?_
    refine T_keep (kc 1 rfl <| kc 3 rfl <| kc 5 rfl <| kc 7 rfl <| kc 8 rfl <| kc 9 rfl <| kc 20 rfl <| kn) rfl ?_
    refine T_if h rfl (fun b20 h => ?_) (fun b20 h => ?_)
    ·
     refine T_keep (kc 1 rfl <| kc 3 rfl <| kc 5 rfl <| kc 7 rfl <| kc 8 rfl <| kc 9 rfl <| kn) rfl ?_
     refine T_reg ?_
     refine R_q _ rfl (v_move (ov rfl)) ?_
     refine R_q _ rfl (v_move (ov rfl)) ?_
     obtain ⟨q, h_q, h⟩ := bnd h
     refine R_q _ rfl (v_quoG (ov rfl) (ov rfl) h_q) ?_
     refine R_q (.sl 5 (List.map R5 ([q] : List Int))) rfl (v_lit tL33 (.cons (cvs (ov rfl) (cell1_b rfl)) rfl (.cons (.b rfl) .nil) <| .nil) rfl rfl) ?_
     obtain ⟨l, h_l, h⟩ := bnd h
     refine R_w _ _ rfl (w_appendG (ov rfl) (slv_sl (ov rfl) tZ_5) tL33 rfl rfl rfl (fun _ => cell1_all rfl) rfl h_l) ?_
     refine R_q _ rfl (v_assign (ov rfl)) ?_
     refine R_nil ?_
     exact ⟨l, h, Ent.sel [some 0] (sd 1 rfl rfl <| sr 3 rfl (.own _ rfl) <| sd 5 rfl rfl <| sd 7 rfl rfl <| sd 8 rfl rfl <| sd 9 rfl rfl <| sn) (.cons rfl (roM D5) <| .nil) rfl rfl⟩
    ·
     refine T_skip ?_
     exact ⟨out2, h, Ent.sel [some 0] (sd 1 rfl rfl <| sr 3 rfl (.own _ rfl) <| sd 5 rfl rfl <| sd 7 rfl rfl <| sd 8 rfl rfl <| sd 9 rfl rfl <| sn) (.cons rfl (roM D5) <| .nil) rfl rfl⟩
   ·
    obtain ⟨out3, rfl⟩ : ∃ x, x = j := ⟨_, rfl⟩
    replace h := t1i h
    refine t1T ?_
    refine T_reg ?_
    refine R_q _ rfl (v_move (ov rfl)) ?_
    refine R_q _ rfl (v_move (ov rfl)) ?_
    obtain ⟨q2, h_q2, h⟩ := bnd h
    refine R_q _ rfl (v_remG (ov rfl) (ov rfl) h_q2) ?_
    refine R_q (.sl 5 (List.map R5 ([q2] : List Int))) rfl (v_lit tL33 (.cons (cvs (ov rfl) (cell1_b rfl)) rfl (.cons (.b rfl) .nil) <| .nil) rfl rfl) ?_
    obtain ⟨l2, h_l2, h⟩ := bnd h
    refine R_w _ _ rfl (w_appendG (ov rfl) (slv_sl (ov rfl) tZ_5) tL33 rfl rfl rfl (fun _ => cell1_all rfl) rfl h_l2) ?_
    refine R_q _ rfl (v_assign (ov rfl)) ?_
    refine R_nil ?_
    refine T_keep (kc 1 rfl <| kc 3 rfl <| kc 7 rfl <| kc 8 rfl <| kc 9 rfl <| kn) rfl ?_
    refine T_reg ?_
    refine R_q _ rfl (v_add (ov rfl) (ov rfl) rfl) ?_
    refine R_q _ rfl (v_move (ov rfl)) ?_
    refine R_nil ?_
    exact ⟨(l2, (i64 (i + 1))), h, Ent.sel [some 0] (sd 1 rfl rfl <| sr 3 rfl (.own _ rfl) <| sd 7 rfl rfl <| sd 8 rfl rfl <| sd 9 rfl rfl <| sn) (.cons rfl (roM D5) <| .nil) rfl rfl⟩
  ·
   refine T_exit ?_
   rw [lx h] at ho1
   replace h := ho1
   exact ⟨out2, h, Ent.sel [some 0] (sr 3 rfl (.own _ rfl) <| sn) (.cons rfl (roM D5) <| .nil) rfl rfl⟩
 ·
  obtain ⟨out, rfl⟩ : ∃ x, x = j := ⟨_, rfl⟩
  replace h := t1i h
  refine t1T ?_
  refine T_seq (T_reg ?_)
  refine R_q _ rfl (v_move (ov rfl)) ?_
  refine R_q _ rfl (v_assign (ov rfl)) ?_
  refine R_nil ?_
  obtain rfl := rt (v := out) h
  refine T_ret (retq ?_ (.one (.tmp rfl (View.ownM rfl rfl D5))))
  rfl

theorem ok_ref4_frameAt {h_ : List Int} {at_ : Int} {r : (Vector Int 64) × (Vector Bool 64)} (h : ref4_frameAt h_ at_ = some r) :
  CSpec Tryd.prog gl0 30 [.sl 5 (List.map R5 h_), .int .i64 at_] (.tuple [.agg (List.map C36 r.1.toList), .agg (List.map C4 r.2.toList)]) := by
 unfold ref4_frameAt at h
 replace h := bnd0 h
 refine spec_of (by kernel_rfl) Tryd.func30 rfl rfl ?_
 intro w0 A
 refine T_seq (T_reg ?_)
 refine R_w _ _ rfl (w_alloc (row := (List.map C36 (Vector.replicate 64 0).toList)) 0 rfl tZ38 rfl tZ_38) ?_
 refine R_w _ _ rfl (w_alloc (row := (List.map C4 (Vector.replicate 64 false).toList)) 1 rfl tZ39 rfl tZ_39) ?_
 refine R_nil ?_
 refine T_seq (T_reg ?_)
 refine R_q (.agg (List.map C36 (#v[0, 0, 0, 0, 0, 0, 0, 0, 0, 0, 0, 0, 0, 0, 0, 0, 0, 0, 0, 0, 0, 0, 0, 0, 0, 0, 0, 0, 0, 0, 0, 0, 0, 0, 0, 0, 0, 0, 0, 0, 0, 0, 0, 0, 0, 0, 0, 0, 0, 0, 0, 0, 0, 0, 0, 0, 0, 0, 0, 0, 0, 0, 0, 0] : Vector Int 64).toList)) rfl (v_buildA (ys := [_, _, _, _, _, _, _, _, _, _, _, _, _, _, _, _, _, _, _, _, _, _, _, _, _, _, _, _, _, _, _, _, _, _, _, _, _, _, _, _, _, _, _, _, _, _, _, _, _, _, _, _, _, _, _, _, _, _, _, _, _, _, _, _]) tR38 tZ38 (.nil) rfl) ?_
 refine R_q (.agg (List.map C4 (#v[false, false, false, false, false, false, false, false, false, false, false, false, false, false, false, false, false, false, false, false, false, false, false, false, false, false, false, false, false, false, false, false, false, false, false, false, false, false, false, false, false, false, false, false, false, false, false, false, false, false, false, false, false, false, false, false, false, false, false, false, false, false, false, false] : Vector Bool 64).toList)) rfl (v_buildA (ys := [_, _, _, _, _, _, _, _, _, _, _, _, _, _, _, _, _, _, _, _, _, _, _, _, _, _, _, _, _, _, _, _, _, _, _, _, _, _, _, _, _, _, _, _, _, _, _, _, _, _, _, _, _, _, _, _, _, _, _, _, _, _, _, _]) tR39 tZ39 (.nil) rfl) ?_
 refine R_w _ _ rfl (w_alloc (row := (List.map C36 (Vector.replicate 64 0).toList)) 2 rfl tZ38 rfl tZ_38) ?_
 refine R_w _ _ rfl (w_alloc (row := (List.map C4 (Vector.replicate 64 false).toList)) 3 rfl tZ39 rfl tZ_39) ?_
 refine R_w _ _ rfl (w_store (ov rfl) (ov rfl) (cells_agg tA38 arL) rfl rfl rfl (put_le (at_all arL) arL) (cell1_all (arC fun _ => rfl)) (put_all (Eq.trans arL (Eq.symm arL)))) ?_
 refine R_w _ _ rfl (w_store (ov rfl) (ov rfl) (cells_agg tA39 arL) rfl rfl rfl (put_le (at_all arL) arL) (cell1_all (arC fun _ => rfl)) (put_all (Eq.trans arL (Eq.symm arL)))) ?_
 refine R_nil ?_
 refine T_joinG id (t2 fun f whole => ⟨[(4, .ptr 0 1 0 0), (5, .ptr 1 1 0 0), (6, .ptr 2 1 0 0), (7, .ptr 3 1 0 0)], [some ⟨38, [(List.map C36 (Vector.replicate 64 0).toList)]⟩, some ⟨39, [(List.map C4 (Vector.replicate 64 false).toList)]⟩, some ⟨38, [(List.map C36 f.toList)]⟩, some ⟨39, [(List.map C4 whole.toList)]⟩]⟩) h (fun h => ?_) (fun j h => ?_)
 ·
  refine T_keep (kc 0 rfl <| kc 1 rfl <| kc 4 rfl <| kc 5 rfl <| kc 6 rfl <| kc 7 rfl <| kn) rfl ?_
  refine T_seq (T_reg ?_)
  refine R_q _ rfl (v_move (ov rfl)) ?_
  refine R_nil ?_
  refine T_block ?_
  obtain ⟨r1, hl1, ho1⟩ := bndL h
  refine T_loopG _ (t3 fun f2 whole2 i => ⟨[(0, .sl 5 (List.map R5 h_)), (1, .int .i64 at_), (4, .ptr 0 1 0 0), (5, .ptr 1 1 0 0), (6, .ptr 2 1 0 0), (7, .ptr 3 1 0 0), (12, .int .i64 i)], [some ⟨38, [(List.map C36 (Vector.replicate 64 0).toList)]⟩, some ⟨39, [(List.map C4 (Vector.replicate 64 false).toList)]⟩, some ⟨38, [(List.map C36 f2.toList)]⟩, some ⟨39, [(List.map C4 whole2.toList)]⟩]⟩) _ hl1 (Ent.sel [some 0, some 1, some 2, some 3] (sd 0 rfl rfl <| sd 1 rfl rfl <| sr 4 rfl (.ptr _ _ _ rfl) <| sr 5 rfl (.ptr _ _ _ rfl) <| sr 6 rfl (.ptr _ _ _ rfl) <| sr 7 rfl (.ptr _ _ _ rfl) <| sd 12 rfl rfl <| sn) (.cons rfl (ro1 (by exact Eq.trans (b := 64) arL tZ_38.symm) (rld (arD fun _ => rfl))) <| .cons rfl (ro1 (by exact Eq.trans (b := 64) arL tZ_39.symm) (rld (arD fun _ => rfl))) <| .cons rfl (ro1 (by exact Eq.trans (b := 64) arL tZ_38.symm) (rld (arD fun _ => rfl))) <| .cons rfl (ro1 (by exact Eq.trans (b := 64) arL tZ_39.symm) (rld (arD fun _ => rfl))) <| .nil) rfl rfl) (fun n1 s1 h => ?_)
  obtain ⟨f2, whole2, i⟩ := s1
  replace h := t3i h
  refine t3T ?_
  unfold ref4_frameAt_L1 at h
  refine T_seq (T_reg ?_)
  refine R_q _ rfl (v_lss (ov rfl) (ov rfl)) ?_
  refine R_nil ?_
  refine T_seq ?_
  refine T_if h rfl (fun b13 h => ?_) (fun b13 h => ?_)
  ·
   refine T_skip ?_
   refine T_seq ?_
   refine T_block ?_
   refine T_keep (kc 0 rfl <| kc 1 rfl <| kc 4 rfl <| kc 5 rfl <| kc 6 rfl <| kc 7 rfl <| kc 12 rfl <| kn) rfl ?_
   refine T_seq (T_reg ?_)
   refine R_q _ rfl (v_move (ov rfl)) ?_
   refine R_q _ rfl (v_assign (ov rfl)) ?_
   refine R_nil ?_
   refine T_keep (kc 0 rfl <| kc 1 rfl <| kc 4 rfl <| kc 5 rfl <| kc 6 rfl <| kc 7 rfl <| kc 8 rfl <| kc 12 rfl <| kn) rfl ?_
   refine T_seq (T_reg ?_)
   refine R_q _ rfl (v_move (ov rfl)) ?_
   refine R_q _ rfl (v_move (ov rfl)) ?_
   refine R_q _ rfl (v_mul (ov rfl) (ov rfl) rfl) ?_
   refine R_q _ rfl (v_add (ov rfl) (ov rfl) rfl) ?_
   refine R_q _ rfl (v_assign (ov rfl)) ?_
   refine R_nil ?_
   refine T_seq ?_
   refine T_keep (kc 0 rfl <| kc 1 rfl <| kc 4 rfl <| kc 5 rfl <| kc 6 rfl <| kc 7 rfl <| kc 8 rfl <| kc 9 rfl <| kc 12 rfl <| kn) rfl ?_
   refine T_seq (T_reg ?_)
   refine R_q _ rfl (v_move (ov rfl)) ?_
   refine R_q _ rfl (v_lss (ov rfl) (ov rfl)) ?_
   refine R_q _ rfl (v_move (ov rfl)) ?_
   refine R_q _ rfl (.guarded ((decide ((i64 (at_ + (i64 (3 * i)))) < 0)) == false) rfl rfl rfl rfl fun h => v_move (ov rfl)) ?_
   refine R_q _ rfl (.guarded ((decide ((i64 (at_ + (i64 (3 * i)))) < 0)) == false) rfl rfl rfl rfl fun h => v_add (ow rfl h) (ov rfl) rfl) ?_
   refine R_q _ rfl (.guarded ((decide ((i64 (at_ + (i64 (3 * i)))) < 0)) == false) rfl rfl rfl rfl fun h => v_move (ov rfl)) ?_
   refine R_q _ rfl (.guarded ((decide ((i64 (at_ + (i64 (3 * i)))) < 0)) == false) rfl rfl rfl rfl fun h => v_len (slv_sl (ow rfl h) tZ_5) tL33 (len_map _ _)) ?_
   refine R_q _ rfl (.guarded ((decide ((i64 (at_ + (i64 (3 * i)))) < 0)) == false) rfl rfl rfl rfl fun h => v_gtr (ow rfl h) (ow rfl h)) ?_
   refine R_q _ rfl (v_or (ov rfl) (fun hp => ow rfl (gF hp))) ?_
   refine R_nil ?_
   refine T_keep (kc 0 rfl <| kc 1 rfl <| kc 4 rfl <| kc 5 rfl <| kc 6 rfl <| kc 7 rfl <| kc 8 rfl <| kc 9 rfl <| kc 12 rfl <| kc 27 rfl <| kn) rfl ?_
   refine T_if h rfl (fun b27 h => ?_) (fun b27 h => ?_)
   ·
    refine T_exit ?_
    refine T_keep (kc 0 rfl <| kc 1 rfl <| kc 4 rfl <| kc 5 rfl <| kc 6 rfl <| kc 7 rfl <| kc 12 rfl <| kn) rfl ?_
    refine T_reg ?_
    refine R_q _ rfl (v_add (ov rfl) (ov rfl) rfl) ?_
    refine R_q _ rfl (v_move (ov rfl)) ?_
    refine R_nil ?_
    exact ⟨(f2, whole2, (i64 (i + 1))), h, Ent.sel [some 0, some 1, some 2, some 3] (sd 0 rfl rfl <| sd 1 rfl rfl <| sr 4 rfl (.ptr _ _ _ rfl) <| sr 5 rfl (.ptr _ _ _ rfl) <| sr 6 rfl (.ptr _ _ _ rfl) <| sr 7 rfl (.ptr _ _ _ rfl) <| sd 12 rfl rfl <| sn) (.cons rfl (ro1 (by exact Eq.trans (b := 64) arL tZ_38.symm) (rld (arD fun _ => rfl))) <| .cons rfl (ro1 (by exact Eq.trans (b := 64) arL tZ_39.symm) (rld (arD fun _ => rfl))) <| .cons rfl (ro1 (by exact Eq.trans (b := 64) arL tZ_38.symm) (rld (arD fun _ => rfl))) <| .cons rfl (ro1 (by exact Eq.trans (b := 64) arL tZ_39.symm) (rld (arD fun _ => rfl))) <| .nil) rfl rfl⟩
   ·
    refine T_skip ?_
    refine T_keep (kc 0 rfl <| kc 1 rfl <| kc 4 rfl <| kc 5 rfl <| kc 6 rfl <| kc 7 rfl <| kc 8 rfl <| kc 9 rfl <| kc 12 rfl <| kn) rfl ?_
    refine T_seq (T_reg ?_)
    refine R_q _ rfl (v_move (ov rfl)) ?_
    obtain ⟨x, h_x, h⟩ := bnd h
    refine R_q _ rfl (v_ixAG (ov rfl) (ov rfl) tR39 rfl rfl h_x) ?_
    refine R_w _ _ rfl (w_store (ov rfl) (ov rfl) (cells_scal tS4) rfl rfl rfl (arB h_x) (cell1_all rfl) (arS h_x)) ?_
    refine R_nil ?_
    refine T_keep (kc 0 rfl <| kc 1 rfl <| kc 4 rfl <| kc 5 rfl <| kc 6 rfl <| kc 7 rfl <| kc 8 rfl <| kc 9 rfl <| kc 12 rfl <| kn) rfl ?_
    refine T_draw (cw := md0) (by kernel_rfl) ?_
    refine D_q0 0 _ rfl (by kernel_rfl) rfl rfl (v_move (ov rfl)) ?_
    refine D_q0 1 _ rfl (by kernel_rfl) rfl rfl (v_move (ov rfl)) ?_
    refine D_q0 2 _ rfl (by kernel_rfl) rfl rfl (v_move (ov rfl)) ?_
    obtain ⟨x2, h_x2, h⟩ := bnd h
    refine D_q0 3 _ rfl (by kernel_rfl) rfl rfl (v_ixSG (ov rfl) (ov rfl) tL33 h_x2) ?_
    refine D_q0 4 _ rfl (by kernel_rfl) rfl rfl (v_loadS_r (ov rfl) tS5 rfl) ?_
    refine D_q0 5 _ rfl (by kernel_rfl) rfl rfl (v_conv (ov rfl) tI5 tI36 rfl) ?_
    refine D_q0 6 _ rfl (by kernel_rfl) rfl rfl (v_mul (ov rfl) (ov rfl) rfl) ?_
    refine D_q0 7 _ rfl (by kernel_rfl) rfl rfl (v_move (ov rfl)) ?_
    refine D_q0 8 _ rfl (by kernel_rfl) rfl rfl (v_move (ov rfl)) ?_
    refine D_q0 9 _ rfl (by kernel_rfl) rfl rfl (v_add (ov rfl) (ov rfl) rfl) ?_
    obtain ⟨x3, h_x3, h⟩ := bnd h
    refine D_q0 10 _ rfl (by kernel_rfl) rfl rfl (v_ixSG (ov rfl) (ov rfl) tL33 h_x3) ?_
    refine D_q0 11 _ rfl (by kernel_rfl) rfl rfl (v_loadS_r (ov rfl) tS5 rfl) ?_
    refine D_q0 12 _ rfl (by kernel_rfl) rfl rfl (v_conv (ov rfl) tI5 tI36 rfl) ?_
    refine D_q0 13 _ rfl (by kernel_rfl) rfl rfl (v_mul (ov rfl) (ov rfl) rfl) ?_
    refine D_q0 14 _ rfl (by kernel_rfl) rfl rfl (v_add (ov rfl) (ov rfl) rfl) ?_
    refine D_q0 15 _ rfl (by kernel_rfl) rfl rfl (v_move (ov rfl)) ?_
    refine D_q0 16 _ rfl (by kernel_rfl) rfl rfl (v_move (ov rfl)) ?_
    refine D_q0 17 _ rfl (by kernel_rfl) rfl rfl (v_add (ov rfl) (ov rfl) rfl) ?_
    obtain ⟨x4, h_x4, h⟩ := bnd h
    refine D_q0 18 _ rfl (by kernel_rfl) rfl rfl (v_ixSG (ov rfl) (ov rfl) tL33 h_x4) ?_
    refine D_q0 19 _ rfl (by kernel_rfl) rfl rfl (v_loadS_r (ov rfl) tS5 rfl) ?_
    refine D_q0 20 _ rfl (by kernel_rfl) rfl rfl (v_conv (ov rfl) tI5 tI36 rfl) ?_
    refine D_q0 21 _ rfl (by kernel_rfl) rfl rfl (v_add (ov rfl) (ov rfl) rfl) ?_
    obtain ⟨x5, h_x5, h⟩ := bnd h
    refine D_q0 22 _ rfl (by kernel_rfl) rfl rfl (v_ixAG (ov rfl) (ov rfl) tR38 rfl rfl h_x5) ?_
    refine D_one 23 _ _ rfl (by kernel_rfl) rfl rfl (fun h => by cases h) (fun h => by cases h) (w_store (ov rfl) (ov rfl) (cells_scal tS36) rfl rfl rfl (arB h_x5) (cell1_all rfl) (arS h_x5)) ?_
    refine D_done (by kernel_rfl) ?_
    refine T_keep (kc 0 rfl <| kc 1 rfl <| kc 4 rfl <| kc 5 rfl <| kc 6 rfl <| kc 7 rfl <| kc 12 rfl <| kn) rfl ?_
    refine T_reg ?_
    refine R_q _ rfl (v_add (ov rfl) (ov rfl) rfl) ?_
    refine R_q _ rfl (v_move (ov rfl)) ?_
    refine R_nil ?_
    exact ⟨((vset f2 i (u16 ((u16 ((u16 ((u16 x2) * 256)) + (u16 ((u16 x3) * 16)))) + (u16 x4)))), (vset whole2 i true), (i64 (i + 1))), h, Ent.sel [some 0, some 1, some 2, some 3] (sd 0 rfl rfl <| sd 1 rfl rfl <| sr 4 rfl (.ptr _ _ _ rfl) <| sr 5 rfl (.ptr _ _ _ rfl) <| sr 6 rfl (.ptr _ _ _ rfl) <| sr 7 rfl (.ptr _ _ _ rfl) <| sd 12 rfl rfl <| sn) (.cons rfl (ro1 (by exact Eq.trans (b := 64) arL tZ_38.symm) (rld (arD fun _ => rfl))) <| .cons rfl (ro1 (by exact Eq.trans (b := 64) arL tZ_39.symm) (rld (arD fun _ => rfl))) <| .cons rfl (ro1 (by exact Eq.trans (b := 64) arL tZ_38.symm) (rld (arD fun _ => rfl))) <| .cons rfl (ro1 (by exact Eq.trans (b := 64) arL tZ_39.symm) (rld (arD fun _ => rfl))) <| .nil) rfl rfl⟩
  ·
   refine T_exit ?_
   rw [lx h] at ho1
   replace h := ho1
   exact ⟨(f2, whole2), h, Ent.sel [some 0, some 1, some 2, some 3] (sr 4 rfl (.ptr _ _ _ rfl) <| sr 5 rfl (.ptr _ _ _ rfl) <| sr 6 rfl (.ptr _ _ _ rfl) <| sr 7 rfl (.ptr _ _ _ rfl) <| sn) (.cons rfl (ro1 (by exact Eq.trans (b := 64) arL tZ_38.symm) (rld (arD fun _ => rfl))) <| .cons rfl (ro1 (by exact Eq.trans (b := 64) arL tZ_39.symm) (rld (arD fun _ => rfl))) <| .cons rfl (ro1 (by exact Eq.trans (b := 64) arL tZ_38.symm) (rld (arD fun _ => rfl))) <| .cons rfl (ro1 (by exact Eq.trans (b := 64) arL tZ_39.symm) (rld (arD fun _ => rfl))) <| .nil) rfl rfl⟩
 ·
  obtain ⟨f, whole⟩ := j
  replace h := t2i h
  refine t2T ?_
  refine T_seq (T_draw (cw := md0) (by kernel_rfl) ?_)
  refine D_q0 0 _ rfl (by kernel_rfl) rfl rfl (v_loadA (ov rfl) rfl rfl rfl tA38 (at_sub (at_all arL)) arL (hns := (nsM fun _ => rfl))) ?_
  refine D_twoQ 1 2 rfl rfl (by kernel_rfl) rfl rfl rfl rfl (fun h => by cases h) (fun h => by cases h) (v_loadA (ov rfl) rfl rfl rfl tA39 (at_sub (at_all arL)) arL (hns := (nsM fun _ => rfl))) (w_store (ov rfl) (ov rfl) (cells_agg tA38 arL) rfl rfl rfl (put_le (at_all arL) arL) (cell1_all (arC fun _ => rfl)) (put_all (Eq.trans arL (Eq.symm arL)))) ?_ ?_
  ·
   refine D_one 2 _ _ rfl (by kernel_rfl) rfl rfl (fun h => by cases h) (fun h => by cases h) (w_store (ov rfl) (ov rfl) (cells_agg tA38 arL) rfl rfl rfl (put_le (at_all arL) arL) (cell1_all (arC fun _ => rfl)) (put_all (Eq.trans arL (Eq.symm arL)))) ?_
   refine D_one 3 _ _ rfl (by kernel_rfl) rfl rfl (fun h => by cases h) (fun h => by cases h) (w_store (ov rfl) (ov rfl) (cells_agg tA39 arL) rfl rfl rfl (put_le (at_all arL) arL) (cell1_all (arC fun _ => rfl)) (put_all (Eq.trans arL (Eq.symm arL)))) ?_
   refine D_done (by kernel_rfl) ?_
   obtain rfl := rt (v := (f, whole)) h
   refine T_ret (retq ?_ (.two (.agg rfl rfl rfl rfl tA38 (at_sub (at_all arL)) arL (pwB (arD fun _ => rfl)) (hns := (nsM fun _ => rfl))) (.agg rfl rfl rfl rfl tA39 (at_sub (at_all arL)) arL (pwB (arD fun _ => rfl)) (hns := (nsM fun _ => rfl)))))
   rfl
  ·
   refine D_q0 1 _ rfl (by kernel_rfl) rfl rfl (v_loadA (ov rfl) rfl rfl rfl tA39 (at_sub (at_all arL)) arL (hns := (nsM fun _ => rfl))) ?_
   refine D_one 3 _ _ rfl (by kernel_rfl) rfl rfl (fun h => by cases h) (fun h => by cases h) (w_store (ov rfl) (ov rfl) (cells_agg tA39 arL) rfl rfl rfl (put_le (at_all arL) arL) (cell1_all (arC fun _ => rfl)) (put_all (Eq.trans arL (Eq.symm arL)))) ?_
   refine D_done (by kernel_rfl) ?_
   obtain rfl := rt (v := (f, whole)) h
   refine T_ret (retq ?_ (.two (.agg rfl rfl rfl rfl tA38 (at_sub (at_all arL)) arL (pwB (arD fun _ => rfl)) (hns := (nsM fun _ => rfl))) (.agg rfl rfl rfl rfl tA39 (at_sub (at_all arL)) arL (pwB (arD fun _ => rfl)) (hns := (nsM fun _ => rfl)))))
   rfl

theorem ok_ref4_FrameAt {p : api_Piece} {at_ : Int} {r : (Vector Int 64) × (Vector Bool 64) × Int} (h : ref4_FrameAt p at_ = some r) :
  CSpec Tryd.prog gl0 10 [.agg [.sl 5 (List.map R5 p.Bytes), .bool p.Half], .int .i64 at_] (.tuple [.agg (List.map C36 r.1.toList), .agg (List.map C4 r.2.1.toList), .int .i64 r.2.2]) := by
 unfold ref4_FrameAt at h
 replace h := bnd0 h
 refine spec_of (by kernel_rfl) Tryd.func10 rfl rfl ?_
 intro w0 A
 refine T_seq (T_reg ?_)
 refine R_q _ rfl (v_boxD (cva (ov rfl)) rfl tZ_35 rfl) ?_
 refine R_w _ _ rfl (w_alloc (row := (List.map C36 (Vector.replicate 64 0).toList)) 0 rfl tZ38 rfl tZ_38) ?_
 refine R_w _ _ rfl (w_alloc (row := (List.map C4 (Vector.replicate 64 false).toList)) 1 rfl tZ39 rfl tZ_39) ?_
 refine R_q _ rfl (v_assign (ov rfl)) ?_
 refine R_nil ?_
 refine T_seq ?_
 refine T_keep (kc 1 rfl <| kc 2 rfl <| kc 4 rfl <| kc 5 rfl <| kn) rfl ?_
 refine T_seq (T_reg ?_)
 refine R_q _ rfl (v_loadA_r (ov rfl) tA35 rfl rfl) ?_
 obtain ⟨y, h_y, h⟩ := bnd h
 refine R_q _ rfl (v_call (ok_ref4_CheckPiece h_y) (.cons (ov rfl) (.aggB rfl) <| .nil)) ?_
 refine R_q _ rfl (v_assign (ov rfl)) ?_
 refine R_nil ?_
 refine T_keep (kc 1 rfl <| kc 2 rfl <| kc 4 rfl <| kc 5 rfl <| kc 7 rfl <| kn) rfl ?_
 refine T_seq (T_reg ?_)
 refine R_q _ rfl (v_move (ov rfl)) ?_
 refine R_q _ rfl (v_neq (ov rfl) (ov rfl)) ?_
 refine R_nil ?_
 refine T_keep (kc 1 rfl <| kc 2 rfl <| kc 4 rfl <| kc 5 rfl <| kc 7 rfl <| kc 14 rfl <| kn) rfl ?_
 refine T_if h rfl (fun b14 h => ?_) (fun b14 h => ?_)
 ·
  refine T_keep (kc 4 rfl <| kc 5 rfl <| kc 7 rfl <| kn) rfl ?_
  refine T_seq (T_reg ?_)
  refine R_q (.agg (List.map C36 (#v[0, 0, 0, 0, 0, 0, 0, 0, 0, 0, 0, 0, 0, 0, 0, 0, 0, 0, 0, 0, 0, 0, 0, 0, 0, 0, 0, 0, 0, 0, 0, 0, 0, 0, 0, 0, 0, 0, 0, 0, 0, 0, 0, 0, 0, 0, 0, 0, 0, 0, 0, 0, 0, 0, 0, 0, 0, 0, 0, 0, 0, 0, 0, 0] : Vector Int 64).toList)) rfl (v_buildA (ys := [_, _, _, _, _, _, _, _, _, _, _, _, _, _, _, _, _, _, _, _, _, _, _, _, _, _, _, _, _, _, _, _, _, _, _, _, _, _, _, _, _, _, _, _, _, _, _, _, _, _, _, _, _, _, _, _, _, _, _, _, _, _, _, _]) tR38 tZ38 (.nil) rfl) ?_
  refine R_q (.agg (List.map C4 (#v[false, false, false, false, false, false, false, false, false, false, false, false, false, false, false, false, false, false, false, false, false, false, false, false, false, false, false, false, false, false, false, false, false, false, false, false, false, false, false, false, false, false, false, false, false, false, false, false, false, false, false, false, false, false, false, false, false, false, false, false, false, false, false, false] : Vector Bool 64).toList)) rfl (v_buildA (ys := [_, _, _, _, _, _, _, _, _, _, _, _, _, _, _, _, _, _, _, _, _, _, _, _, _, _, _, _, _, _, _, _, _, _, _, _, _, _, _, _, _, _, _, _, _, _, _, _, _, _, _, _, _, _, _, _, _, _, _, _, _, _, _, _]) tR39 tZ39 (.nil) rfl) ?_
  refine R_q _ rfl (v_move (ov rfl)) ?_
  refine R_w _ _ rfl (w_store (ov rfl) (ov rfl) (cells_agg tA38 arL) rfl rfl rfl (put_le (at_all arL) arL) (cell1_all (arC fun _ => rfl)) (put_all (Eq.trans arL (Eq.symm arL)))) ?_
  refine R_w _ _ rfl (w_store (ov rfl) (ov rfl) (cells_agg tA39 arL) rfl rfl rfl (put_le (at_all arL) arL) (cell1_all (arC fun _ => rfl)) (put_all (Eq.trans arL (Eq.symm arL)))) ?_
  refine R_q _ rfl (v_assign (ov rfl)) ?_
  refine R_nil ?_
  obtain rfl := rt (v := ((#v[0, 0, 0, 0, 0, 0, 0, 0, 0, 0, 0, 0, 0, 0, 0, 0, 0, 0, 0, 0, 0, 0, 0, 0, 0, 0, 0, 0, 0, 0, 0, 0, 0, 0, 0, 0, 0, 0, 0, 0, 0, 0, 0, 0, 0, 0, 0, 0, 0, 0, 0, 0, 0, 0, 0, 0, 0, 0, 0, 0, 0, 0, 0, 0] : Vector Int 64), (#v[false, false, false, false, false, false, false, false, false, false, false, false, false, false, false, false, false, false, false, false, false, false, false, false, false, false, false, false, false, false, false, false, false, false, false, false, false, false, false, false, false, false, false, false, false, false, false, false, false, false, false, false, false, false, false, false, false, false, false, false, false, false, false, false] : Vector Bool 64), y)) h
  refine T_ret (retq ?_ (.three (.agg rfl rfl rfl rfl tA38 (at_sub (at_all arL)) arL (pwB (arD fun _ => rfl)) (hns := (nsM fun _ => rfl))) (.agg rfl rfl rfl rfl tA39 (at_sub (at_all arL)) arL (pwB (arD fun _ => rfl)) (hns := (nsM fun _ => rfl))) (.tmp rfl (Dat.view (.b rfl)))))
  rfl
 ·
  refine T_skip ?_
  refine T_keep (kc 1 rfl <| kc 2 rfl <| kc 4 rfl <| kc 5 rfl <| kn) rfl ?_
  refine T_seq (T_reg ?_)
  refine R_q _ rfl (v_loadA_r (ov rfl) tA35 rfl rfl) ?_
  obtain ⟨y2, h_y2, h⟩ := bnd h
  refine R_q _ rfl (v_call (ok_ref4_Halves h_y2) (.cons (ov rfl) (.aggB rfl) <| .nil)) ?_
  refine R_q _ rfl (v_assign (ov rfl)) ?_
  refine R_nil ?_
  refine T_seq ?_
  refine T_keep (kc 1 rfl <| kc 4 rfl <| kc 5 rfl <| kc 8 rfl <| kn) rfl ?_
  refine T_seq (T_reg ?_)
  refine R_q _ rfl (v_move (ov rfl)) ?_
  refine R_q _ rfl (v_lss (ov rfl) (ov rfl)) ?_
  refine R_q _ rfl (v_move (ov rfl)) ?_
  refine R_q _ rfl (.guarded ((decide (at_ < (-191))) == false) rfl rfl rfl rfl fun h => v_move (ov rfl)) ?_
  refine R_q _ rfl (.guarded ((decide (at_ < (-191))) == false) rfl rfl rfl rfl fun h => v_move (ov rfl)) ?_
  refine R_q _ rfl (.guarded ((decide (at_ < (-191))) == false) rfl rfl rfl rfl fun h => v_len (slv_sl (ow rfl h) tZ_5) tL33 (len_map _ _)) ?_
  refine R_q _ rfl (.guarded ((decide (at_ < (-191))) == false) rfl rfl rfl rfl fun h => v_sub (ow rfl h) (ov rfl) rfl) ?_
  refine R_q _ rfl (.guarded ((decide (at_ < (-191))) == false) rfl rfl rfl rfl fun h => v_gtr (ow rfl h) (ow rfl h)) ?_
  refine R_q _ rfl (v_or (ov rfl) (fun hp => ow rfl (gF hp))) ?_
  refine R_nil ?_
  refine T_keep (kc 1 rfl <| kc 4 rfl <| kc 5 rfl <| kc 8 rfl <| kc 28 rfl <| kn) rfl ?_
  refine T_if h rfl (fun b28 h => ?_) (fun b28 h => ?_)
  ·
   refine T_keep (kc 4 rfl <| kc 5 rfl <| kn) rfl ?_
   refine T_seq (T_reg ?_)
   refine R_q (.agg (List.map C36 (#v[0, 0, 0, 0, 0, 0, 0, 0, 0, 0, 0, 0, 0, 0, 0, 0, 0, 0, 0, 0, 0, 0, 0, 0, 0, 0, 0, 0, 0, 0, 0, 0, 0, 0, 0, 0, 0, 0, 0, 0, 0, 0, 0, 0, 0, 0, 0, 0, 0, 0, 0, 0, 0, 0, 0, 0, 0, 0, 0, 0, 0, 0, 0, 0] : Vector Int 64).toList)) rfl (v_buildA (ys := [_, _, _, _, _, _, _, _, _, _, _, _, _, _, _, _, _, _, _, _, _, _, _, _, _, _, _, _, _, _, _, _, _, _, _, _, _, _, _, _, _, _, _, _, _, _, _, _, _, _, _, _, _, _, _, _, _, _, _, _, _, _, _, _]) tR38 tZ38 (.nil) rfl) ?_
   refine R_q (.agg (List.map C4 (#v[false, false, false, false, false, false, false, false, false, false, false, false, false, false, false, false, false, false, false, false, false, false, false, false, false, false, false, false, false, false, false, false, false, false, false, false, false, false, false, false, false, false, false, false, false, false, false, false, false, false, false, false, false, false, false, false, false, false, false, false, false, false, false, false] : Vector Bool 64).toList)) rfl (v_buildA (ys := [_, _, _, _, _, _, _, _, _, _, _, _, _, _, _, _, _, _, _, _, _, _, _, _, _, _, _, _, _, _, _, _, _, _, _, _, _, _, _, _, _, _, _, _, _, _, _, _, _, _, _, _, _, _, _, _, _, _, _, _, _, _, _, _]) tR39 tZ39 (.nil) rfl) ?_
   refine R_w _ _ rfl (w_store (ov rfl) (ov rfl) (cells_agg tA38 arL) rfl rfl rfl (put_le (at_all arL) arL) (cell1_all (arC fun _ => rfl)) (put_all (Eq.trans arL (Eq.symm arL)))) ?_
   refine R_w _ _ rfl (w_store (ov rfl) (ov rfl) (cells_agg tA39 arL) rfl rfl rfl (put_le (at_all arL) arL) (cell1_all (arC fun _ => rfl)) (put_all (Eq.trans arL (Eq.symm arL)))) ?_
   refine R_q _ rfl (v_assign (ov rfl)) ?_
   refine R_nil ?_
   obtain rfl := rt (v := ((#v[0, 0, 0, 0, 0, 0, 0, 0, 0, 0, 0, 0, 0, 0, 0, 0, 0, 0, 0, 0, 0, 0, 0, 0, 0, 0, 0, 0, 0, 0, 0, 0, 0, 0, 0, 0, 0, 0, 0, 0, 0, 0, 0, 0, 0, 0, 0, 0, 0, 0, 0, 0, 0, 0, 0, 0, 0, 0, 0, 0, 0, 0, 0, 0] : Vector Int 64), (#v[false, false, false, false, false, false, false, false, false, false, false, false, false, false, false, false, false, false, false, false, false, false, false, false, false, false, false, false, false, false, false, false, false, false, false, false, false, false, false, false, false, false, false, false, false, false, false, false, false, false, false, false, false, false, false, false, false, false, false, false, false, false, false, false] : Vector Bool 64), 9)) h
   refine T_ret (retq ?_ (.three (.agg rfl rfl rfl rfl tA38 (at_sub (at_all arL)) arL (pwB (arD fun _ => rfl)) (hns := (nsM fun _ => rfl))) (.agg rfl rfl rfl rfl tA39 (at_sub (at_all arL)) arL (pwB (arD fun _ => rfl)) (hns := (nsM fun _ => rfl))) (.tmp rfl (Dat.view (.b rfl)))))
   rfl
  ·
   refine T_skip ?_
   refine T_keep (kc 1 rfl <| kc 4 rfl <| kc 5 rfl <| kc 8 rfl <| kn) rfl ?_
   refine T_seq (T_reg ?_)
   refine R_q _ rfl (v_move (ov rfl)) ?_
   refine R_q _ rfl (v_move (ov rfl)) ?_
   obtain ⟨y3, h_y3, h⟩ := bnd h
   refine R_q _ rfl (v_call (ok_ref4_frameAt h_y3) (.cons (ov rfl) (.b rfl) <| .cons (ov rfl) (.b rfl) <| .nil)) ?_
   refine R_q _ rfl (v_move (ov rfl)) ?_
   refine R_q _ rfl (v_extract (ov rfl) rfl) ?_
   refine R_q _ rfl (v_extract (ov rfl) rfl) ?_
   refine R_w _ _ rfl (w_alloc (row := (List.map C36 (Vector.replicate 64 0).toList)) 2 rfl tZ38 rfl tZ_38) ?_
   refine R_w _ _ rfl (w_alloc (row := (List.map C4 (Vector.replicate 64 false).toList)) 3 rfl tZ39 rfl tZ_39) ?_
   refine R_w _ _ rfl (w_store (ov rfl) (ov rfl) (cells_agg tA38 arL) rfl rfl rfl (put_le (at_all arL) arL) (cell1_all (arC fun _ => rfl)) (put_all (Eq.trans arL (Eq.symm arL)))) ?_
   refine R_w _ _ rfl (w_store (ov rfl) (ov rfl) (cells_agg tA39 arL) rfl rfl rfl (put_le (at_all arL) arL) (cell1_all (arC fun _ => rfl)) (put_all (Eq.trans arL (Eq.symm arL)))) ?_
   refine R_nil ?_
   refine T_keep (kc 4 rfl <| kc 5 rfl <| kc 9 rfl <| kc 10 rfl <| kn) rfl ?_
   refine T_seq (T_draw (cw := md0) (by kernel_rfl) ?_)
   refine D_q0 0 _ rfl (by kernel_rfl) rfl rfl (v_loadA (ov rfl) rfl rfl rfl tA38 (at_sub (at_all arL)) arL (hns := (nsM fun _ => rfl))) ?_
   refine D_twoQ 1 2 rfl rfl (by kernel_rfl) rfl rfl rfl rfl (fun h => by cases h) (fun h => by cases h) (v_loadA (ov rfl) rfl rfl rfl tA39 (at_sub (at_all arL)) arL (hns := (nsM fun _ => rfl))) (w_store (ov rfl) (ov rfl) (cells_agg tA38 arL) rfl rfl rfl (put_le (at_all arL) arL) (cell1_all (arC fun _ => rfl)) (put_all (Eq.trans arL (Eq.symm arL)))) ?_ ?_
   ·
    refine D_one 2 _ _ rfl (by kernel_rfl) rfl rfl (fun h => by cases h) (fun h => by cases h) (w_store (ov rfl) (ov rfl) (cells_agg tA38 arL) rfl rfl rfl (put_le (at_all arL) arL) (cell1_all (arC fun _ => rfl)) (put_all (Eq.trans arL (Eq.symm arL)))) ?_
    refine D_one 3 _ _ rfl (by kernel_rfl) rfl rfl (fun h => by cases h) (fun h => by cases h) (w_store (ov rfl) (ov rfl) (cells_agg tA39 arL) rfl rfl rfl (put_le (at_all arL) arL) (cell1_all (arC fun _ => rfl)) (put_all (Eq.trans arL (Eq.symm arL)))) ?_
    refine D_q0 4 _ rfl (by kernel_rfl) rfl rfl (v_assign (ov rfl)) ?_
    refine D_done (by kernel_rfl) ?_
    obtain rfl := rt (v := (y3.1, y3.2, 0)) h
    refine T_ret (retq ?_ (.three (.agg rfl rfl rfl rfl tA38 (at_sub (at_all arL)) arL (pwB (arD fun _ => rfl)) (hns := (nsM fun _ => rfl))) (.agg rfl rfl rfl rfl tA39 (at_sub (at_all arL)) arL (pwB (arD fun _ => rfl)) (hns := (nsM fun _ => rfl))) (.tmp rfl (Dat.view (.b rfl)))))
    rfl
   ·
    refine D_q0 1 _ rfl (by kernel_rfl) rfl rfl (v_loadA (ov rfl) rfl rfl rfl tA39 (at_sub (at_all arL)) arL (hns := (nsM fun _ => rfl))) ?_
    refine D_one 3 _ _ rfl (by kernel_rfl) rfl rfl (fun h => by cases h) (fun h => by cases h) (w_store (ov rfl) (ov rfl) (cells_agg tA39 arL) rfl rfl rfl (put_le (at_all arL) arL) (cell1_all (arC fun _ => rfl)) (put_all (Eq.trans arL (Eq.symm arL)))) ?_
    refine D_q0 4 _ rfl (by kernel_rfl) rfl rfl (v_assign (ov rfl)) ?_
    refine D_done (by kernel_rfl) ?_
    obtain rfl := rt (v := (y3.1, y3.2, 0)) h
    refine T_ret (retq ?_ (.three (.agg rfl rfl rfl rfl tA38 (at_sub (at_all arL)) arL (pwB (arD fun _ => rfl)) (hns := (nsM fun _ => rfl))) (.agg rfl rfl rfl rfl tA39 (at_sub (at_all arL)) arL (pwB (arD fun _ => rfl)) (hns := (nsM fun _ => rfl))) (.tmp rfl (Dat.view (.b rfl)))))
    rfl

theorem ok_ref1_odd {n : Int} {r : Bool} (h : ref1_odd n = some r) :
  CSpec Tryd.prog gl0 103 [.int .i64 n] (.bool r) := by
 unfold ref1_odd at h
 replace h := bnd0 h
 refine spec_of (by kernel_rfl) Tryd.func103 rfl rfl ?_
 intro w0 A
 refine T_seq (T_reg ?_)
 refine R_q _ rfl (v_assign (ov rfl)) ?_
 refine R_nil ?_
 refine T_keep (kc 0 rfl <| kn) rfl ?_
 refine T_seq (T_reg ?_)
 refine R_q _ rfl (v_assign (ov rfl)) ?_
 refine R_nil ?_
 refine T_joinG id (t1 fun ones => ⟨[(3, .int .i64 ones)], []⟩) h (fun h => ?_) (fun j h => ?_)
 ·
  refine T_block ?_
  obtain ⟨r1, hl1, ho1⟩ := bndL h
  refine T_loopG _ (t2 fun n2 ones2 => ⟨[(0, .int .i64 n2), (3, .int .i64 ones2)], []⟩) _ hl1 (Ent.sel [] (sd 0 rfl rfl <| sd 3 rfl rfl <| sn) (.nil) rfl rfl) (fun n1 s1 h => ?_)
  obtain ⟨n2, ones2⟩ := s1
  replace h := t2i h
  refine t2T ?_
  unfold ref1_odd_L1 at h
  refine T_seq ?_
  refine T_seq (T_reg ?_)
  refine R_q _ rfl (v_move (ov rfl)) ?_
  refine R_q _ rfl (v_gtr (ov rfl) (ov rfl)) ?_
  refine R_nil ?_
  refine T_keep (kc 0 rfl <| kc 3 rfl <| kc 5 rfl <| kn) rfl ?_
  refine T_if h rfl (fun b5 h => ?_) (fun b5 h => ?_)
  ·
   refine T_skip ?_
   refine T_seq ?_
   refine T_block ?_
   refine T_keep (kc 0 rfl <| kc 3 rfl <| kn) rfl ?_
   refine T_reg ?_
   refine R_q _ rfl (v_move (ov rfl)) ?_
   refine R_q _ rfl (v_move (ov rfl)) ?_
   obtain ⟨q, h_q, h⟩ := bnd h
   refine R_q _ rfl (v_remG (ov rfl) (ov rfl) h_q) ?_
   refine R_q _ rfl (v_add (ov rfl) (ov rfl) rfl) ?_
   refine R_q _ rfl (v_assign (ov rfl)) ?_
   refine R_nil ?_
   refine T_keep (kc 0 rfl <| kc 3 rfl <| kn) rfl ?_
   refine T_reg ?_
   refine R_q _ rfl (v_move (ov rfl)) ?_
   obtain ⟨q2, h_q2, h⟩ := bnd h
   refine R_q _ rfl (v_quoG (ov rfl) (ov rfl) h_q2) ?_
   refine R_q _ rfl (v_assign (ov rfl)) ?_
   refine R_nil ?_
   exact ⟨(q2, (i64 (ones2 + q))), h, Ent.sel [] (sd 0 rfl rfl <| sd 3 rfl rfl <| sn) (.nil) rfl rfl⟩
  ·
   refine T_exit ?_
   rw [lx h] at ho1
   replace h := ho1
   exact ⟨ones2, h, Ent.sel [] (sd 3 rfl rfl <| sn) (.nil) rfl rfl⟩
 ·
  obtain ⟨ones, rfl⟩ : ∃ x, x = j := ⟨_, rfl⟩
  replace h := t1i h
  refine t1T ?_
  refine T_seq (T_reg ?_)
  refine R_q _ rfl (v_move (ov rfl)) ?_
  obtain ⟨q3, h_q3, h⟩ := bnd h
  refine R_q _ rfl (v_remG (ov rfl) (ov rfl) h_q3) ?_
  refine R_q _ rfl (v_eql (ov rfl) (ov rfl)) ?_
  refine R_q _ rfl (v_assign (ov rfl)) ?_
  refine R_nil ?_
  obtain rfl := rt (v := (decide (q3 = 1))) h
  refine T_ret (retq ?_ (.one (.tmp rfl (Dat.view (.b rfl)))))
  rfl

theorem ok_ref1_word {data : Int} {r : Int} (h : ref1_word data = some r) :
  CSpec Tryd.prog gl0 80 [.int .i64 data] (.int .i64 r) := by
 unfold ref1_word at h
 replace h := bnd0 h
 refine spec_of (by kernel_rfl) Tryd.func80 rfl rfl ?_
 intro w0 A
 refine T_seq (T_reg ?_)
 refine R_q _ rfl (v_assign (ov rfl)) ?_
 refine R_nil ?_
 refine T_seq ?_
 refine T_keep (kc 0 rfl <| kn) rfl ?_
 refine T_seq (T_reg ?_)
 refine R_q _ rfl (v_move (ov rfl)) ?_
 obtain ⟨y, h_y, h⟩ := bnd h
 refine R_q _ rfl (v_call (ok_ref1_odd h_y) (.cons (ov rfl) (.b rfl) <| .nil)) ?_
 refine R_nil ?_
 refine T_keep (kc 0 rfl <| kc 4 rfl <| kn) rfl ?_
 refine T_if h rfl (fun b4 h => ?_) (fun b4 h => ?_)
 ·
  refine T_keep (kc 0 rfl <| kn) rfl ?_
  refine T_seq (T_reg ?_)
  refine R_q _ rfl (v_move (ov rfl)) ?_
  refine R_q _ rfl (v_assign (ov rfl)) ?_
  refine R_nil ?_
  obtain rfl := rt (v := data) h
  refine T_ret (retq ?_ (.one (.tmp rfl (Dat.view (.b rfl)))))
  rfl
 ·
  refine T_skip ?_
  refine T_keep (kc 0 rfl <| kn) rfl ?_
  refine T_seq (T_reg ?_)
  refine R_q _ rfl (v_move (ov rfl)) ?_
  refine R_q _ rfl (v_add (ov rfl) (ov rfl) rfl) ?_
  refine R_q _ rfl (v_assign (ov rfl)) ?_
  refine R_nil ?_
  obtain rfl := rt (v := (i64 (data + 2048))) h
  refine T_ret (retq ?_ (.one (.tmp rfl (Dat.view (.b rfl)))))
  rfl

theorem ok_ref1_numberOf {f : Vector Int 64} {r : Int} (h : ref1_numberOf f = some r) :
  CSpec Tryd.prog gl0 82 [.agg (List.map C36 f.toList)] (.int .i64 r) := by
 unfold ref1_numberOf at h
 replace h := bnd0 h
 refine spec_of (by kernel_rfl) Tryd.func82 rfl rfl ?_
 intro w0 A
 refine T_seq (T_reg ?_)
 refine R_q _ rfl (v_boxD (cva (ov rfl)) arL tZ_38 (arD fun _ => rfl)) ?_
 refine R_q _ rfl (v_assign (ov rfl)) ?_
 refine R_nil ?_
 refine T_keep (kc 1 rfl <| kc 2 rfl <| kn) rfl ?_
 refine T_seq (T_reg ?_)
 obtain ⟨x, h_x, h⟩ := bnd h
 refine R_q _ rfl (v_ixRG (ov rfl) (ov rfl) tR38 h_x) ?_
 refine R_q _ rfl (v_loadS_r (ov rfl) tS36 (at_get (at_at (o := 0) (o' := ((Int.toNat 1) * 1)) (at_all arL) (at_v1 h_x)))) ?_
 refine R_q _ rfl (v_conv (ov rfl) tI36 tI3 rfl) ?_
 obtain ⟨q, h_q, h⟩ := bnd h
 refine R_q _ rfl (v_remG (ov rfl) (ov rfl) h_q) ?_
 obtain ⟨x2, h_x2, h⟩ := bnd h
 refine R_q _ rfl (v_ixRG (ov rfl) (ov rfl) tR38 h_x2) ?_
 refine R_q _ rfl (v_loadS_r (ov rfl) tS36 (at_get (at_at (o := 0) (o' := ((Int.toNat 2) * 1)) (at_all arL) (at_v1 h_x2)))) ?_
 refine R_q _ rfl (v_conv (ov rfl) tI36 tI3 rfl) ?_
 obtain ⟨q2, h_q2, h⟩ := bnd h
 refine R_q _ rfl (v_remG (ov rfl) (ov rfl) h_q2) ?_
 refine R_q _ rfl (v_mul (ov rfl) (ov rfl) rfl) ?_
 refine R_q _ rfl (v_add (ov rfl) (ov rfl) rfl) ?_
 refine R_q _ rfl (v_assign (ov rfl)) ?_
 refine R_nil ?_
 obtain rfl := rt (v := (i64 (q + (i64 (q2 * 2048))))) h
 refine T_ret (retq ?_ (.one (.tmp rfl (Dat.view (.b rfl)))))
 rfl

theorem ok_ref1_syncOf {number : Int} {r : Int} (h : ref1_syncOf number = some r) :
  CSpec Tryd.prog gl0 81 [.int .i64 number] (.int .i64 r) := by
 unfold ref1_syncOf at h
 replace h := bnd0 h
 refine spec_of (by kernel_rfl) Tryd.func81 rfl rfl ?_
 intro w0 A
 refine T_seq (T_reg ?_)
 refine R_q _ rfl (v_assign (ov rfl)) ?_
 refine R_nil ?_
 refine T_seq (T_reg ?_)
 refine R_q (.agg (List.map C3 (#v[583, 1464, 2631, 3512] : Vector Int 4).toList)) rfl (v_buildA (ys := [_, _, _, _]) tR161 tZ161 (.cons (cvs (ov rfl) (cell1_b rfl)) <| .cons (cvs (ov rfl) (cell1_b rfl)) <| .cons (cvs (ov rfl) (cell1_b rfl)) <| .cons (cvs (ov rfl) (cell1_b rfl)) <| .nil) rfl) ?_
 refine R_q _ rfl (v_move (ov rfl)) ?_
 obtain ⟨q, h_q, h⟩ := bnd h
 refine R_q _ rfl (v_remG (ov rfl) (ov rfl) h_q) ?_
 obtain ⟨x, h_x, h⟩ := bnd h
 refine R_q _ rfl (v_indexVG (ov rfl) (ov rfl) tR161 tS3 h_x) ?_
 refine R_q _ rfl (v_assign (ov rfl)) ?_
 refine R_nil ?_
 obtain rfl := rt (v := x) h
 refine T_ret (retq ?_ (.one (.tmp rfl (Dat.view (.b rfl)))))
 rfl

theorem ok_ref1_sum {f : Vector Int 64} {r : Int} (h : ref1_sum f = some r) :
  CSpec Tryd.prog gl0 83 [.agg (List.map C36 f.toList)] (.int .i64 r) := by
 unfold ref1_sum at h
 replace h := bnd0 h
 refine spec_of (by kernel_rfl) Tryd.func83 rfl rfl ?_
 intro w0 A
 refine T_seq (T_reg ?_)
 refine R_q _ rfl (v_boxD (cva (ov rfl)) arL tZ_38 (arD fun _ => rfl)) ?_
 refine R_q _ rfl (v_assign (ov rfl)) ?_
 refine R_nil ?_
 refine T_keep (kc 1 rfl <| kn) rfl ?_
 refine T_seq (T_reg ?_)
 refine R_q _ rfl (v_assign (ov rfl)) ?_
 refine R_nil ?_
 refine T_joinG id (t1 fun x => ⟨[(3, .int .i64 x)], []⟩) h (fun h => ?_) (fun j h => ?_)
 ·
  refine T_seq (T_reg ?_)
  refine R_q _ rfl (v_assign (ov rfl)) ?_
  refine R_nil ?_
  refine T_block ?_
  obtain ⟨r1, hl1, ho1⟩ := bndL h
  refine T_loopG _ (t2 fun x2 i => ⟨[(1, .rp (List.map C36 f.toList) 0), (3, .int .i64 x2), (4, .int .i64 i)], []⟩) _ hl1 (Ent.sel [] (sd 1 rfl rfl <| sd 3 rfl rfl <| sd 4 rfl rfl <| sn) (.nil) rfl rfl) (fun n1 s1 h => ?_)
  obtain ⟨x2, i⟩ := s1
  replace h := t2i h
  refine t2T ?_
  unfold ref1_sum_L1 at h
  refine T_seq ?_
  refine T_seq (T_reg ?_)
  refine R_q _ rfl (v_move (ov rfl)) ?_
  refine R_q _ rfl (v_leq (ov rfl) (ov rfl)) ?_
  refine R_nil ?_
  refine T_keep (kc 1 rfl <| kc 3 rfl <| kc 4 rfl <| kc 6 rfl <| kn) rfl ?_
  refine T_if h rfl (fun b6 h => ?_) (fun b6 h => ?_)
  ·
   refine T_skip ?_
   refine T_seq ?_
   refine T_block ?_
   refine T_keep (kc 1 rfl <| kc 3 rfl <| kc 4 rfl <| kn) rfl ?_
   refine T_reg ?_
   refine R_q _ rfl (v_move (ov rfl)) ?_
   refine R_q _ rfl (v_move (ov rfl)) ?_
   obtain ⟨x3, h_x3, h⟩ := bnd h
   refine R_q _ rfl (v_ixRG (ov rfl) (ov rfl) tR38 h_x3) ?_
   refine R_q _ rfl (v_loadS_r (ov rfl) tS36 (at_get (at_at (o := 0) (o' := (i.toNat * 1)) (at_all arL) (at_v1 h_x3)))) ?_
   refine R_q _ rfl (v_conv (ov rfl) tI36 tI3 rfl) ?_
   obtain ⟨q, h_q, h⟩ := bnd h
   refine R_q _ rfl (v_remG (ov rfl) (ov rfl) h_q) ?_
   refine R_q _ rfl (v_xor_ (ov rfl) (ov rfl)) ?_
   refine R_q _ rfl (v_assign (ov rfl)) ?_
   refine R_nil ?_
   refine T_keep (kc 1 rfl <| kc 3 rfl <| kc 4 rfl <| kn) rfl ?_
   refine T_reg ?_
   refine R_q _ rfl (v_move (ov rfl)) ?_
   refine R_q _ rfl (v_add (ov rfl) (ov rfl) rfl) ?_
   refine R_q _ rfl (v_assign (ov rfl)) ?_
   refine R_nil ?_
   exact ⟨((bxor .i64 x2 q), (i64 (i + 1))), h, Ent.sel [] (sd 1 rfl rfl <| sd 3 rfl rfl <| sd 4 rfl rfl <| sn) (.nil) rfl rfl⟩
  ·
   refine T_exit ?_
   rw [lx h] at ho1
   replace h := ho1
   exact ⟨x2, h, Ent.sel [] (sd 3 rfl rfl <| sn) (.nil) rfl rfl⟩
 ·
  obtain ⟨x, rfl⟩ : ∃ x, x = j := ⟨_, rfl⟩
  replace h := t1i h
  refine t1T ?_
  refine T_seq (T_reg ?_)
  refine R_q _ rfl (v_move (ov rfl)) ?_
  refine R_q _ rfl (v_assign (ov rfl)) ?_
  refine R_nil ?_
  obtain rfl := rt (v := x) h
  refine T_ret (retq ?_ (.one (.tmp rfl (Dat.view (.b rfl)))))
  rfl

theorem ok_ref1_check {f : Vector Int 64} {r : Int} (h : ref1_check f = some r) :
  CSpec Tryd.prog gl0 104 [.agg (List.map C36 f.toList)] (.int .i64 r) := by
 unfold ref1_check at h
 replace h := bnd0 h
 refine spec_of (by kernel_rfl) Tryd.func104 rfl rfl ?_
 intro w0 A
 refine T_seq (T_reg ?_)
 refine R_q _ rfl (v_boxD (cva (ov rfl)) arL tZ_38 (arD fun _ => rfl)) ?_
 refine R_q _ rfl (v_assign (ov rfl)) ?_
 refine R_nil ?_
 refine T_keep (kc 1 rfl <| kn) rfl ?_
 refine T_seq (T_reg ?_)
 refine R_q _ rfl (v_assign (ov rfl)) ?_
 refine R_nil ?_
 refine T_joinG id (t1 fun rest => ⟨[(3, .int .i64 rest)], []⟩) h (fun h => ?_) (fun j h => ?_)
 ·
  refine T_seq (T_reg ?_)
  refine R_q _ rfl (v_assign (ov rfl)) ?_
  refine R_nil ?_
  refine T_block ?_
  obtain ⟨r1, hl1, ho1⟩ := bndL h
  refine T_loopG _ (t2 fun rest2 i => ⟨[(1, .rp (List.map C36 f.toList) 0), (3, .int .i64 rest2), (4, .int .i64 i)], []⟩) _ hl1 (Ent.sel [] (sd 1 rfl rfl <| sd 3 rfl rfl <| sd 4 rfl rfl <| sn) (.nil) rfl rfl) (fun n1 s1 h => ?_)
  obtain ⟨rest2, i⟩ := s1
  replace h := t2i h
  refine t2T ?_
  unfold ref1_check_L1 at h
  refine T_seq ?_
  refine T_seq (T_reg ?_)
  refine R_q _ rfl (v_move (ov rfl)) ?_
  refine R_q _ rfl (v_lss (ov rfl) (ov rfl)) ?_
  refine R_nil ?_
  refine T_keep (kc 1 rfl <| kc 3 rfl <| kc 4 rfl <| kc 7 rfl <| kn) rfl ?_
  refine T_if h rfl (fun b7 h => ?_) (fun b7 h => ?_)
  ·
   refine T_skip ?_
   refine T_seq ?_
   refine T_block ?_
   refine T_keep (kc 1 rfl <| kc 3 rfl <| kc 4 rfl <| kn) rfl ?_
   refine T_seq (T_reg ?_)
   refine R_q _ rfl (v_assign (ov rfl)) ?_
   refine R_nil ?_
   refine T_joinG id (t1 fun bit => ⟨[(1, .rp (List.map C36 f.toList) 0), (3, .int .i64 rest2), (4, .int .i64 i), (5, .int .i64 bit)], []⟩) h (fun h => ?_) (fun j h => ?_)
   ·
    refine T_seq (T_reg ?_)
    refine R_q _ rfl (v_move (ov rfl)) ?_
    refine R_q _ rfl (v_lss (ov rfl) (ov rfl)) ?_
    refine R_nil ?_
    refine T_keep (kc 1 rfl <| kc 3 rfl <| kc 4 rfl <| kc 5 rfl <| kc 11 rfl <| kn) rfl ?_
    refine T_if h rfl (fun b11 h => ?_) (fun b11 h => ?_)
    ·
     refine T_keep (kc 1 rfl <| kc 3 rfl <| kc 4 rfl <| kc 5 rfl <| kn) rfl ?_
     refine T_reg ?_
     refine R_q _ rfl (v_move (ov rfl)) ?_
     obtain ⟨q, h_q, h⟩ := bnd h
     refine R_q _ rfl (v_quoG (ov rfl) (ov rfl) h_q) ?_
     obtain ⟨x, h_x, h⟩ := bnd h
     refine R_q _ rfl (v_ixRG (ov rfl) (ov rfl) tR38 h_x) ?_
     refine R_q _ rfl (v_loadS_r (ov rfl) tS36 (at_get (at_at (o := 0) (o' := (q.toNat * 1)) (at_all arL) (at_v1 h_x)))) ?_
     refine R_q _ rfl (v_conv (ov rfl) tI36 tI3 rfl) ?_
     refine R_q _ rfl (v_move (ov rfl)) ?_
     obtain ⟨q2, h_q2, h⟩ := bnd h
     refine R_q _ rfl (v_remG (ov rfl) (ov rfl) h_q2) ?_
     refine R_q _ rfl (v_sub (ov rfl) (ov rfl) rfl) ?_
     obtain ⟨q3, h_q3, h⟩ := bnd h
     refine R_q _ rfl (v_shrG (ov rfl) (ov rfl) h_q3) ?_
     refine R_q _ rfl (v_and_ (ov rfl) (ov rfl)) ?_
     refine R_q _ rfl (v_assign (ov rfl)) ?_
     refine R_nil ?_
     exact ⟨(band .i64 q3 1), h, Ent.sel [] (sd 1 rfl rfl <| sd 3 rfl rfl <| sd 4 rfl rfl <| sd 5 rfl rfl <| sn) (.nil) rfl rfl⟩
    ·
     refine T_skip ?_
     exact ⟨0, h, Ent.sel [] (sd 1 rfl rfl <| sd 3 rfl rfl <| sd 4 rfl rfl <| sd 5 rfl rfl <| sn) (.nil) rfl rfl⟩
   ·
    obtain ⟨bit, rfl⟩ : ∃ x, x = j := ⟨_, rfl⟩
    replace h := t1i h
    refine t1T ?_
    refine T_seq (T_reg ?_)
    refine R_q _ rfl (v_move (ov rfl)) ?_
    refine R_q _ rfl (v_mul (ov rfl) (ov rfl) rfl) ?_
    refine R_q _ rfl (v_move (ov rfl)) ?_
    refine R_q _ rfl (v_add (ov rfl) (ov rfl) rfl) ?_
    refine R_q _ rfl (v_assign (ov rfl)) ?_
    refine R_nil ?_
    refine T_keep (kc 1 rfl <| kc 3 rfl <| kc 4 rfl <| kn) rfl ?_
    refine T_seq (T_reg ?_)
    refine R_q _ rfl (v_move (ov rfl)) ?_
    refine R_q _ rfl (v_geq (ov rfl) (ov rfl)) ?_
    refine R_nil ?_
    refine T_keep (kc 1 rfl <| kc 3 rfl <| kc 4 rfl <| kc 27 rfl <| kn) rfl ?_
    refine T_if h rfl (fun b27 h => ?_) (fun b27 h => ?_)
    ·
     refine T_keep (kc 1 rfl <| kc 3 rfl <| kc 4 rfl <| kn) rfl ?_
     refine T_reg ?_
     refine R_q _ rfl (v_move (ov rfl)) ?_
     refine R_q _ rfl (v_xor_ (ov rfl) (ov rfl)) ?_
     refine R_q _ rfl (v_assign (ov rfl)) ?_
     refine R_nil ?_
     refine T_keep (kc 1 rfl <| kc 3 rfl <| kc 4 rfl <| kn) rfl ?_
     refine T_reg ?_
     refine R_q _ rfl (v_move (ov rfl)) ?_
     refine R_q _ rfl (v_add (ov rfl) (ov rfl) rfl) ?_
     refine R_q _ rfl (v_assign (ov rfl)) ?_
     refine R_nil ?_
     exact ⟨((bxor .i64 (i64 ((i64 (rest2 * 2)) + bit)) 6291471), (i64 (i + 1))), h, Ent.sel [] (sd 1 rfl rfl <| sd 3 rfl rfl <| sd 4 rfl rfl <| sn) (.nil) rfl rfl⟩
    ·
     refine T_skip ?_
     refine T_keep (kc 1 rfl <| kc 3 rfl <| kc 4 rfl <| kn) rfl ?_
     refine T_reg ?_
     refine R_q _ rfl (v_move (ov rfl)) ?_
     refine R_q _ rfl (v_add (ov rfl) (ov rfl) rfl) ?_
     refine R_q _ rfl (v_assign (ov rfl)) ?_
     refine R_nil ?_
     exact ⟨((i64 ((i64 (rest2 * 2)) + bit)), (i64 (i + 1))), h, Ent.sel [] (sd 1 rfl rfl <| sd 3 rfl rfl <| sd 4 rfl rfl <| sn) (.nil) rfl rfl⟩
  ·
   refine T_exit ?_
   rw [lx h] at ho1
   replace h := ho1
   exact ⟨rest2, h, Ent.sel [] (sd 3 rfl rfl <| sn) (.nil) rfl rfl⟩
 ·
  obtain ⟨rest, rfl⟩ : ∃ x, x = j := ⟨_, rfl⟩
  replace h := t1i h
  refine t1T ?_
  refine T_seq (T_reg ?_)
  refine R_q _ rfl (v_move (ov rfl)) ?_
  refine R_q _ rfl (v_assign (ov rfl)) ?_
  refine R_nil ?_
  obtain rfl := rt (v := rest) h
  refine T_ret (retq ?_ (.one (.tmp rfl (Dat.view (.b rfl)))))
  rfl

theorem ok_ref1_checked {f : Vector Int 64} {r : (Vector Int 64)} (h : ref1_checked f = some r) :
  CSpec Tryd.prog gl0 84 [.agg (List.map C36 f.toList)] (.agg (List.map C36 r.toList)) := by
 unfold ref1_checked at h
 replace h := bnd0 h
 refine spec_of (by kernel_rfl) Tryd.func84 rfl rfl ?_
 intro w0 A
 refine T_seq (T_reg ?_)
 refine R_w _ _ rfl (w_box 0 rfl (ov rfl) tA38 arL) ?_
 refine R_w _ _ rfl (w_alloc (row := (List.map C36 (Vector.replicate 64 0).toList)) 1 rfl tZ38 rfl tZ_38) ?_
 refine R_nil ?_
 refine T_keep (kc 1 rfl <| kc 2 rfl <| kn) rfl ?_
 refine T_seq (T_reg ?_)
 refine R_q _ rfl (v_loadA (ov rfl) rfl rfl rfl tA38 (at_sub (at_all arL)) arL (hns := (nsM fun _ => rfl))) ?_
 obtain ⟨y, h_y, h⟩ := bnd h
 refine R_q _ rfl (v_call (ok_ref1_check h_y) (.cons (ov rfl) (.aggB (arD fun _ => rfl)) <| .nil)) ?_
 refine R_q _ rfl (v_assign (ov rfl)) ?_
 refine R_nil ?_
 refine T_keep (kc 1 rfl <| kc 2 rfl <| kc 3 rfl <| kn) rfl ?_
 refine T_seq (T_reg ?_)
 refine R_q _ rfl (v_move (ov rfl)) ?_
 obtain ⟨q, h_q, h⟩ := bnd h
 refine R_q _ rfl (v_quoG (ov rfl) (ov rfl) h_q) ?_
 obtain ⟨y2, h_y2, h⟩ := bnd h
 refine R_q _ rfl (v_call (ok_ref1_word h_y2) (.cons (ov rfl) (.b rfl) <| .nil)) ?_
 refine R_q _ rfl (v_conv (ov rfl) tI3 tI36 rfl) ?_
 refine R_q _ rfl (v_move (ov rfl)) ?_
 obtain ⟨q2, h_q2, h⟩ := bnd h
 refine R_q _ rfl (v_remG (ov rfl) (ov rfl) h_q2) ?_
 obtain ⟨y3, h_y3, h⟩ := bnd h
 refine R_q _ rfl (v_call (ok_ref1_word h_y3) (.cons (ov rfl) (.b rfl) <| .nil)) ?_
 refine R_q _ rfl (v_conv (ov rfl) tI3 tI36 rfl) ?_
 obtain ⟨x, h_x, h⟩ := bnd h
 refine R_q _ rfl (v_ixAG (ov rfl) (ov rfl) tR38 rfl rfl h_x) ?_
 refine R_w _ _ rfl (w_store (ov rfl) (ov rfl) (cells_scal tS36) rfl rfl rfl (arB h_x) (cell1_all rfl) (arS h_x)) ?_
 obtain ⟨x2, h_x2, h⟩ := bnd h
 refine R_q _ rfl (v_ixAG (ov rfl) (ov rfl) tR38 rfl rfl h_x2) ?_
 refine R_w _ _ rfl (w_store (ov rfl) (ov rfl) (cells_scal tS36) rfl rfl rfl (arB h_x2) (cell1_all rfl) (arS h_x2)) ?_
 refine R_nil ?_
 refine T_keep (kc 1 rfl <| kc 2 rfl <| kn) rfl ?_
 refine T_seq (T_reg ?_)
 refine R_q _ rfl (v_loadA (ov rfl) rfl rfl rfl tA38 (at_sub (at_all arL)) arL (hns := (nsM fun _ => rfl))) ?_
 refine R_w _ _ rfl (w_store (ov rfl) (ov rfl) (cells_agg tA38 arL) rfl rfl rfl (put_le (at_all arL) arL) (cell1_all (arC fun _ => rfl)) (put_all (Eq.trans arL (Eq.symm arL)))) ?_
 refine R_nil ?_
 obtain rfl := rt (v := (vset (vset f 62 (u16 y2)) 63 (u16 y3))) h
 refine T_ret (retq ?_ (.one (.agg rfl rfl rfl rfl tA38 (at_sub (at_all arL)) arL (pwB (arD fun _ => rfl)) (hns := (nsM fun _ => rfl)))))
 rfl

theorem ok_ref1_sealed {f : Vector Int 64} {r : (Vector Int 64)} (h : ref1_sealed f = some r) :
  CSpec Tryd.prog gl0 56 [.agg (List.map C36 f.toList)] (.agg (List.map C36 r.toList)) := by
 unfold ref1_sealed at h
 replace h := bnd0 h
 refine spec_of (by kernel_rfl) Tryd.func56 rfl rfl ?_
 intro w0 A
 refine T_seq (T_reg ?_)
 refine R_w _ _ rfl (w_box 0 rfl (ov rfl) tA38 arL) ?_
 refine R_w _ _ rfl (w_alloc (row := (List.map C36 (Vector.replicate 64 0).toList)) 1 rfl tZ38 rfl tZ_38) ?_
 refine R_nil ?_
 refine T_joinG id (t1 fun f2 => ⟨[(1, .ptr 0 1 0 0), (2, .ptr 1 1 0 0)], [some ⟨38, [(List.map C36 f2.toList)]⟩, some ⟨38, [(List.map C36 (Vector.replicate 64 0).toList)]⟩]⟩) h (fun h => ?_) (fun j h => ?_)
 ·
  refine T_keep (kc 1 rfl <| kc 2 rfl <| kn) rfl ?_
  refine T_seq (T_reg ?_)
  refine R_q _ rfl (v_assign (ov rfl)) ?_
  refine R_nil ?_
  refine T_block ?_
  obtain ⟨r1, hl1, ho1⟩ := bndL h
  refine T_loopG _ (t2 fun f3 i => ⟨[(1, .ptr 0 1 0 0), (2, .ptr 1 1 0 0), (3, .int .i64 i)], [some ⟨38, [(List.map C36 f3.toList)]⟩, some ⟨38, [(List.map C36 (Vector.replicate 64 0).toList)]⟩]⟩) _ hl1 (Ent.sel [some 0, some 1] (sr 1 rfl (.ptr _ _ _ rfl) <| sr 2 rfl (.ptr _ _ _ rfl) <| sd 3 rfl rfl <| sn) (.cons rfl (ro1 (by exact Eq.trans (b := 64) arL tZ_38.symm) (rld (arD fun _ => rfl))) <| .cons rfl (ro1 (by exact Eq.trans (b := 64) arL tZ_38.symm) (rld (arD fun _ => rfl))) <| .nil) rfl rfl) (fun n1 s1 h => ?_)
  obtain ⟨f3, i⟩ := s1
  replace h := t2i h
  refine t2T ?_
  unfold ref1_sealed_L1 at h
  refine T_seq ?_
  refine T_seq (T_reg ?_)
  refine R_q _ rfl (v_move (ov rfl)) ?_
  refine R_q _ rfl (v_leq (ov rfl) (ov rfl)) ?_
  refine R_nil ?_
  refine T_keep (kc 1 rfl <| kc 2 rfl <| kc 3 rfl <| kc 5 rfl <| kn) rfl ?_
  refine T_if h rfl (fun b5 h => ?_) (fun b5 h => ?_)
  ·
   refine T_skip ?_
   refine T_seq ?_
   refine T_block ?_
   refine T_keep (kc 1 rfl <| kc 2 rfl <| kc 3 rfl <| kn) rfl ?_
   refine T_reg ?_
   refine R_q _ rfl (v_move (ov rfl)) ?_
   refine R_q _ rfl (v_move (ov rfl)) ?_
   obtain ⟨x, h_x, h⟩ := bnd h
   refine R_q _ rfl (v_ixAG (ov rfl) (ov rfl) tR38 rfl rfl h_x) ?_
   refine R_q _ rfl (v_loadS (ov rfl) rfl rfl rfl tS36 (at_get (at_at (o := 0) (o' := (i.toNat * 1)) (at_all arL) (at_v1 h_x)))) ?_
   refine R_q _ rfl (v_conv (ov rfl) tI36 tI3 rfl) ?_
   obtain ⟨q, h_q, h⟩ := bnd h
   refine R_q _ rfl (v_remG (ov rfl) (ov rfl) h_q) ?_
   obtain ⟨y, h_y, h⟩ := bnd h
   refine R_q _ rfl (v_call (ok_ref1_word h_y) (.cons (ov rfl) (.b rfl) <| .nil)) ?_
   refine R_q _ rfl (v_conv (ov rfl) tI3 tI36 rfl) ?_
   obtain ⟨x2, h_x2, h⟩ := bnd h
   refine R_q _ rfl (v_ixAG (ov rfl) (ov rfl) tR38 rfl rfl h_x2) ?_
   refine R_w _ _ rfl (w_store (ov rfl) (ov rfl) (cells_scal tS36) rfl rfl rfl (arB h_x2) (cell1_all rfl) (arS h_x2)) ?_
   refine R_nil ?_
   refine T_keep (kc 1 rfl <| kc 2 rfl <| kc 3 rfl <| kn) rfl ?_
   refine T_reg ?_
   refine R_q _ rfl (v_move (ov rfl)) ?_
   refine R_q _ rfl (v_add (ov rfl) (ov rfl) rfl) ?_
   refine R_q _ rfl (v_assign (ov rfl)) ?_
   refine R_nil ?_
   exact ⟨((vset f3 i (u16 y)), (i64 (i + 1))), h, Ent.sel [some 0, some 1] (sr 1 rfl (.ptr _ _ _ rfl) <| sr 2 rfl (.ptr _ _ _ rfl) <| sd 3 rfl rfl <| sn) (.cons rfl (ro1 (by exact Eq.trans (b := 64) arL tZ_38.symm) (rld (arD fun _ => rfl))) <| .cons rfl (ro1 (by exact Eq.trans (b := 64) arL tZ_38.symm) (rld (arD fun _ => rfl))) <| .nil) rfl rfl⟩
  ·
   refine T_exit ?_
   rw [lx h] at ho1
   replace h := ho1
   exact ⟨f3, h, Ent.sel [some 0, some 1] (sr 1 rfl (.ptr _ _ _ rfl) <| sr 2 rfl (.ptr _ _ _ rfl) <| sn) (.cons rfl (ro1 (by exact Eq.trans (b := 64) arL tZ_38.symm) (rld (arD fun _ => rfl))) <| .cons rfl (ro1 (by exact Eq.trans (b := 64) arL tZ_38.symm) (rld (arD fun _ => rfl))) <| .nil) rfl rfl⟩
 ·
  obtain ⟨f2, rfl⟩ : ∃ x, x = j := ⟨_, rfl⟩
  replace h := t1i h
  refine t1T ?_
  refine T_seq (T_reg ?_)
  refine R_q _ rfl (v_loadA (ov rfl) rfl rfl rfl tA38 (at_sub (at_all arL)) arL (hns := (nsM fun _ => rfl))) ?_
  obtain ⟨y2, h_y2, h⟩ := bnd h
  refine R_q _ rfl (v_call (ok_ref1_numberOf h_y2) (.cons (ov rfl) (.aggB (arD fun _ => rfl)) <| .nil)) ?_
  obtain ⟨y3, h_y3, h⟩ := bnd h
  refine R_q _ rfl (v_call (ok_ref1_syncOf h_y3) (.cons (ov rfl) (.b rfl) <| .nil)) ?_
  refine R_q _ rfl (v_conv (ov rfl) tI3 tI36 rfl) ?_
  obtain ⟨x3, h_x3, h⟩ := bnd h
  refine R_q _ rfl (v_ixAG (ov rfl) (ov rfl) tR38 rfl rfl h_x3) ?_
  refine R_w _ _ rfl (w_store (ov rfl) (ov rfl) (cells_scal tS36) rfl rfl rfl (arB h_x3) (cell1_all rfl) (arS h_x3)) ?_
  refine R_nil ?_
  refine T_keep (kc 1 rfl <| kc 2 rfl <| kn) rfl ?_
  refine T_seq (T_reg ?_)
  refine R_q _ rfl (v_loadA (ov rfl) rfl rfl rfl tA38 (at_sub (at_all arL)) arL (hns := (nsM fun _ => rfl))) ?_
  obtain ⟨y4, h_y4, h⟩ := bnd h
  refine R_q _ rfl (v_call (ok_ref1_sum h_y4) (.cons (ov rfl) (.aggB (arD fun _ => rfl)) <| .nil)) ?_
  obtain ⟨y5, h_y5, h⟩ := bnd h
  refine R_q _ rfl (v_call (ok_ref1_word h_y5) (.cons (ov rfl) (.b rfl) <| .nil)) ?_
  refine R_q _ rfl (v_conv (ov rfl) tI3 tI36 rfl) ?_
  obtain ⟨x4, h_x4, h⟩ := bnd h
  refine R_q _ rfl (v_ixAG (ov rfl) (ov rfl) tR38 rfl rfl h_x4) ?_
  refine R_w _ _ rfl (w_store (ov rfl) (ov rfl) (cells_scal tS36) rfl rfl rfl (arB h_x4) (cell1_all rfl) (arS h_x4)) ?_
  refine R_nil ?_
  refine T_keep (kc 1 rfl <| kc 2 rfl <| kn) rfl ?_
  refine T_seq (T_reg ?_)
  refine R_q _ rfl (v_loadA (ov rfl) rfl rfl rfl tA38 (at_sub (at_all arL)) arL (hns := (nsM fun _ => rfl))) ?_
  obtain ⟨y6, h_y6, h⟩ := bnd h
  refine R_q _ rfl (v_call (ok_ref1_checked h_y6) (.cons (ov rfl) (.aggB (arD fun _ => rfl)) <| .nil)) ?_
  refine R_w _ _ rfl (w_store (ov rfl) (ov rfl) (cells_agg tA38 arL) rfl rfl rfl (put_le (at_all arL) arL) (cell1_all (arC fun _ => rfl)) (put_all (Eq.trans arL (Eq.symm arL)))) ?_
  refine R_nil ?_
  obtain rfl := rt (v := y6) h
  refine T_ret (retq ?_ (.one (.agg rfl rfl rfl rfl tA38 (at_sub (at_all arL)) arL (pwB (arD fun _ => rfl)) (hns := (nsM fun _ => rfl)))))
  rfl

theorem ok_ref1_New {number : Int} {data : List Int} {r : (Vector Int 64) × Int} (h : ref1_New number data = some r) :
  CSpec Tryd.prog gl0 31 [.int .i64 number, .sl 3 (List.map R3 data)] (.tuple [.agg (List.map C36 r.1.toList), .int .i64 r.2]) := by
 unfold ref1_New at h
 replace h := bnd0 h
 refine spec_of (by kernel_rfl) Tryd.func31 rfl rfl ?_
 intro w0 A
 refine T_seq (T_reg ?_)
 refine R_w _ _ rfl (w_alloc (row := (List.map C36 (Vector.replicate 64 0).toList)) 0 rfl tZ38 rfl tZ_38) ?_
 refine R_q _ rfl (v_assign (ov rfl)) ?_
 refine R_nil ?_
 refine T_seq ?_
 refine T_keep (kc 0 rfl <| kc 1 rfl <| kc 4 rfl <| kn) rfl ?_
 refine T_seq (T_reg ?_)
 refine R_q _ rfl (v_move (ov rfl)) ?_
 refine R_q _ rfl (v_lss (ov rfl) (ov rfl)) ?_
 refine R_q _ rfl (v_move (ov rfl)) ?_
 refine R_q _ rfl (.guarded ((decide (number < 0)) == false) rfl rfl rfl rfl fun h => v_move (ov rfl)) ?_
 refine R_q _ rfl (.guarded ((decide (number < 0)) == false) rfl rfl rfl rfl fun h => v_geq (ow rfl h) (ov rfl)) ?_
 refine R_q _ rfl (v_or (ov rfl) (fun hp => ow rfl (gF hp))) ?_
 refine R_nil ?_
 refine T_keep (kc 0 rfl <| kc 1 rfl <| kc 4 rfl <| kc 14 rfl <| kn) rfl ?_
 refine T_if h rfl (fun b14 h => ?_) (fun b14 h => ?_)
 ·
  refine T_keep (kc 4 rfl <| kn) rfl ?_
  refine T_seq (T_reg ?_)
  refine R_q (.agg (List.map C36 (#v[0, 0, 0, 0, 0, 0, 0, 0, 0, 0, 0, 0, 0, 0, 0, 0, 0, 0, 0, 0, 0, 0, 0, 0, 0, 0, 0, 0, 0, 0, 0, 0, 0, 0, 0, 0, 0, 0, 0, 0, 0, 0, 0, 0, 0, 0, 0, 0, 0, 0, 0, 0, 0, 0, 0, 0, 0, 0, 0, 0, 0, 0, 0, 0] : Vector Int 64).toList)) rfl (v_buildA (ys := [_, _, _, _, _, _, _, _, _, _, _, _, _, _, _, _, _, _, _, _, _, _, _, _, _, _, _, _, _, _, _, _, _, _, _, _, _, _, _, _, _, _, _, _, _, _, _, _, _, _, _, _, _, _, _, _, _, _, _, _, _, _, _, _]) tR38 tZ38 (.nil) rfl) ?_
  refine R_w _ _ rfl (w_store (ov rfl) (ov rfl) (cells_agg tA38 arL) rfl rfl rfl (put_le (at_all arL) arL) (cell1_all (arC fun _ => rfl)) (put_all (Eq.trans arL (Eq.symm arL)))) ?_
  refine R_q _ rfl (v_assign (ov rfl)) ?_
  refine R_nil ?_
  obtain rfl := rt (v := ((#v[0, 0, 0, 0, 0, 0, 0, 0, 0, 0, 0, 0, 0, 0, 0, 0, 0, 0, 0, 0, 0, 0, 0, 0, 0, 0, 0, 0, 0, 0, 0, 0, 0, 0, 0, 0, 0, 0, 0, 0, 0, 0, 0, 0, 0, 0, 0, 0, 0, 0, 0, 0, 0, 0, 0, 0, 0, 0, 0, 0, 0, 0, 0, 0] : Vector Int 64), 9)) h
  refine T_ret (retq ?_ (.two (.agg rfl rfl rfl rfl tA38 (at_sub (at_all arL)) arL (pwB (arD fun _ => rfl)) (hns := (nsM fun _ => rfl))) (.tmp rfl (Dat.view (.b rfl)))))
  rfl
 ·
  refine T_skip ?_
  refine T_seq ?_
  refine T_keep (kc 0 rfl <| kc 1 rfl <| kc 4 rfl <| kn) rfl ?_
  refine T_seq (T_reg ?_)
  refine R_q _ rfl (v_move (ov rfl)) ?_
  refine R_q _ rfl (v_len (slv_sl (ov rfl) tZ_3) tL26 (len_map _ _)) ?_
  refine R_q _ rfl (v_neq (ov rfl) (ov rfl)) ?_
  refine R_nil ?_
  refine T_keep (kc 0 rfl <| kc 1 rfl <| kc 4 rfl <| kc 18 rfl <| kn) rfl ?_
  refine T_if h rfl (fun b18 h => ?_) (fun b18 h => ?_)
  ·
   refine T_keep (kc 4 rfl <| kn) rfl ?_
   refine T_seq (T_reg ?_)
   refine R_q (.agg (List.map C36 (#v[0, 0, 0, 0, 0, 0, 0, 0, 0, 0, 0, 0, 0, 0, 0, 0, 0, 0, 0, 0, 0, 0, 0, 0, 0, 0, 0, 0, 0, 0, 0, 0, 0, 0, 0, 0, 0, 0, 0, 0, 0, 0, 0, 0, 0, 0, 0, 0, 0, 0, 0, 0, 0, 0, 0, 0, 0, 0, 0, 0, 0, 0, 0, 0] : Vector Int 64).toList)) rfl (v_buildA (ys := [_, _, _, _, _, _, _, _, _, _, _, _, _, _, _, _, _, _, _, _, _, _, _, _, _, _, _, _, _, _, _, _, _, _, _, _, _, _, _, _, _, _, _, _, _, _, _, _, _, _, _, _, _, _, _, _, _, _, _, _, _, _, _, _]) tR38 tZ38 (.nil) rfl) ?_
   refine R_w _ _ rfl (w_store (ov rfl) (ov rfl) (cells_agg tA38 arL) rfl rfl rfl (put_le (at_all arL) arL) (cell1_all (arC fun _ => rfl)) (put_all (Eq.trans arL (Eq.symm arL)))) ?_
   refine R_q _ rfl (v_assign (ov rfl)) ?_
   refine R_nil ?_
   obtain rfl := rt (v := ((#v[0, 0, 0, 0, 0, 0, 0, 0, 0, 0, 0, 0, 0, 0, 0, 0, 0, 0, 0, 0, 0, 0, 0, 0, 0, 0, 0, 0, 0, 0, 0, 0, 0, 0, 0, 0, 0, 0, 0, 0, 0, 0, 0, 0, 0, 0, 0, 0, 0, 0, 0, 0, 0, 0, 0, 0, 0, 0, 0, 0, 0, 0, 0, 0] : Vector Int 64), 3)) h
   refine T_ret (retq ?_ (.two (.agg rfl rfl rfl rfl tA38 (at_sub (at_all arL)) arL (pwB (arD fun _ => rfl)) (hns := (nsM fun _ => rfl))) (.tmp rfl (Dat.view (.b rfl)))))
   rfl
  ·
   refine T_skip ?_
   refine T_keep (kc 0 rfl <| kc 1 rfl <| kc 4 rfl <| kn) rfl ?_
   refine T_seq (T_reg ?_)
   refine R_q (.agg (List.map C36 (#v[0, 0, 0, 0, 0, 0, 0, 0, 0, 0, 0, 0, 0, 0, 0, 0, 0, 0, 0, 0, 0, 0, 0, 0, 0, 0, 0, 0, 0, 0, 0, 0, 0, 0, 0, 0, 0, 0, 0, 0, 0, 0, 0, 0, 0, 0, 0, 0, 0, 0, 0, 0, 0, 0, 0, 0, 0, 0, 0, 0, 0, 0, 0, 0] : Vector Int 64).toList)) rfl (v_buildA (ys := [_, _, _, _, _, _, _, _, _, _, _, _, _, _, _, _, _, _, _, _, _, _, _, _, _, _, _, _, _, _, _, _, _, _, _, _, _, _, _, _, _, _, _, _, _, _, _, _, _, _, _, _, _, _, _, _, _, _, _, _, _, _, _, _]) tR38 tZ38 (.nil) rfl) ?_
   refine R_w _ _ rfl (w_alloc (row := (List.map C36 (Vector.replicate 64 0).toList)) 1 rfl tZ38 rfl tZ_38) ?_
   refine R_w _ _ rfl (w_store (ov rfl) (ov rfl) (cells_agg tA38 arL) rfl rfl rfl (put_le (at_all arL) arL) (cell1_all (arC fun _ => rfl)) (put_all (Eq.trans arL (Eq.symm arL)))) ?_
   refine R_nil ?_
   refine T_keep (kc 0 rfl <| kc 1 rfl <| kc 4 rfl <| kc 6 rfl <| kn) rfl ?_
   refine T_seq (T_reg ?_)
   refine R_q _ rfl (v_move (ov rfl)) ?_
   obtain ⟨q, h_q, h⟩ := bnd h
   refine R_q _ rfl (v_remG (ov rfl) (ov rfl) h_q) ?_
   refine R_q _ rfl (v_conv (ov rfl) tI3 tI36 rfl) ?_
   refine R_q _ rfl (v_move (ov rfl)) ?_
   obtain ⟨q2, h_q2, h⟩ := bnd h
   refine R_q _ rfl (v_quoG (ov rfl) (ov rfl) h_q2) ?_
   refine R_q _ rfl (v_conv (ov rfl) tI3 tI36 rfl) ?_
   obtain ⟨x, h_x, h⟩ := bnd h
   refine R_q _ rfl (v_ixAG (ov rfl) (ov rfl) tR38 rfl rfl h_x) ?_
   refine R_w _ _ rfl (w_store (ov rfl) (ov rfl) (cells_scal tS36) rfl rfl rfl (arB h_x) (cell1_all rfl) (arS h_x)) ?_
   obtain ⟨x2, h_x2, h⟩ := bnd h
   refine R_q _ rfl (v_ixAG (ov rfl) (ov rfl) tR38 rfl rfl h_x2) ?_
   refine R_w _ _ rfl (w_store (ov rfl) (ov rfl) (cells_scal tS36) rfl rfl rfl (arB h_x2) (cell1_all rfl) (arS h_x2)) ?_
   refine R_nil ?_
   refine T_joinG (fun j => (.inr j)) (t1 fun f => ⟨[(4, .ptr 0 1 0 0), (6, .ptr 1 1 0 0)], [some ⟨38, [(List.map C36 (Vector.replicate 64 0).toList)]⟩, some ⟨38, [(List.map C36 f.toList)]⟩]⟩) h (fun h => ?_) (fun j h => ?_)
   ·
    refine T_keep (kc 1 rfl <| kc 4 rfl <| kc 6 rfl <| kn) rfl ?_
    refine T_seq (T_reg ?_)
    refine R_q _ rfl (v_move (ov rfl)) ?_
    refine R_q _ rfl (v_len (slv_sl (ov rfl) tZ_3) tL26 (len_map _ _)) ?_
    refine R_q _ rfl (v_move (ov rfl)) ?_
    refine R_nil ?_
    refine T_block ?_
    obtain ⟨r1, hl1, ho1⟩ := bndL h
    refine T_loopG _ (t2 fun f2 i => ⟨[(4, .ptr 0 1 0 0), (6, .ptr 1 1 0 0), (29, .sl 3 (List.map R3 data)), (30, .int .i64 (data.length : Int)), (31, .int .i64 i)], [some ⟨38, [(List.map C36 (Vector.replicate 64 0).toList)]⟩, some ⟨38, [(List.map C36 f2.toList)]⟩]⟩) _ hl1 (Ent.sel [some 0, some 1] (sr 4 rfl (.ptr _ _ _ rfl) <| sr 6 rfl (.ptr _ _ _ rfl) <| sd 29 rfl rfl <| sd 30 rfl rfl <| sd 31 rfl rfl <| sn) (.cons rfl (ro1 (by exact Eq.trans (b := 64) arL tZ_38.symm) (rld (arD fun _ => rfl))) <| .cons rfl (ro1 (by exact Eq.trans (b := 64) arL tZ_38.symm) (rld (arD fun _ => rfl))) <| .nil) rfl rfl) (fun n1 s1 h => ?_)
    obtain ⟨f2, i⟩ := s1
    replace h := t2i h
    refine t2T ?_
    unfold ref1_New_L1 at h
    refine T_seq (T_reg ?_)
    refine R_q _ rfl (v_lss (ov rfl) (ov rfl)) ?_
    refine R_nil ?_
    refine T_seq ?_
    refine T_if h rfl (fun b32 h => ?_) (fun b32 h => ?_)
    ·
     refine T_skip ?_
     refine T_seq ?_
     refine T_block ?_
     refine T_keep (kc 4 rfl <| kc 6 rfl <| kc 29 rfl <| kc 30 rfl <| kc 31 rfl <| kn) rfl ?_
     refine T_seq (T_reg ?_)
     refine R_q _ rfl (v_move (ov rfl)) ?_
     obtain ⟨x3, h_x3, h⟩ := bnd h
     refine R_q _ rfl (v_ixSG (ov rfl) (ov rfl) tL26 h_x3) ?_
     refine R_q _ rfl (v_loadS_r (ov rfl) tS3 rfl) ?_
     refine R_q _ rfl (v_assign (ov rfl)) ?_
     refine R_q _ rfl (v_assign (ov rfl)) ?_
     refine R_nil ?_
     refine T_seq ?_
     refine T_keep (kc 4 rfl <| kc 6 rfl <| kc 7 rfl <| kc 8 rfl <| kc 29 rfl <| kc 30 rfl <| kc 31 rfl <| kn) rfl ?_
     refine T_seq (T_reg ?_)
     refine R_q _ rfl (v_move (ov rfl)) ?_
     refine R_q _ rfl (v_lss (ov rfl) (ov rfl)) ?_
     refine R_q _ rfl (v_move (ov rfl)) ?_
     refine R_q _ rfl (.guarded ((decide (x3 < 0)) == false) rfl rfl rfl rfl fun h => v_move (ov rfl)) ?_
     refine R_q _ rfl (.guarded ((decide (x3 < 0)) == false) rfl rfl rfl rfl fun h => v_gtr (ow rfl h) (ov rfl)) ?_
     refine R_q _ rfl (v_or (ov rfl) (fun hp => ow rfl (gF hp))) ?_
     refine R_nil ?_
     refine T_keep (kc 4 rfl <| kc 6 rfl <| kc 7 rfl <| kc 8 rfl <| kc 29 rfl <| kc 30 rfl <| kc 31 rfl <| kc 41 rfl <| kn) rfl ?_
     refine T_if h rfl (fun b41 h => ?_) (fun b41 h => ?_)
     ·
      refine T_keep (kc 4 rfl <| kn) rfl ?_
      refine T_seq (T_reg ?_)
      refine R_q (.agg (List.map C36 (#v[0, 0, 0, 0, 0, 0, 0, 0, 0, 0, 0, 0, 0, 0, 0, 0, 0, 0, 0, 0, 0, 0, 0, 0, 0, 0, 0, 0, 0, 0, 0, 0, 0, 0, 0, 0, 0, 0, 0, 0, 0, 0, 0, 0, 0, 0, 0, 0, 0, 0, 0, 0, 0, 0, 0, 0, 0, 0, 0, 0, 0, 0, 0, 0] : Vector Int 64).toList)) rfl (v_buildA (ys := [_, _, _, _, _, _, _, _, _, _, _, _, _, _, _, _, _, _, _, _, _, _, _, _, _, _, _, _, _, _, _, _, _, _, _, _, _, _, _, _, _, _, _, _, _, _, _, _, _, _, _, _, _, _, _, _, _, _, _, _, _, _, _, _]) tR38 tZ38 (.nil) rfl) ?_
      refine R_w _ _ rfl (w_store (ov rfl) (ov rfl) (cells_agg tA38 arL) rfl rfl rfl (put_le (at_all arL) arL) (cell1_all (arC fun _ => rfl)) (put_all (Eq.trans arL (Eq.symm arL)))) ?_
      refine R_q _ rfl (v_assign (ov rfl)) ?_
      refine R_nil ?_
      rw [lx h] at ho1
      replace h := ho1
      obtain rfl := rt (v := ((#v[0, 0, 0, 0, 0, 0, 0, 0, 0, 0, 0, 0, 0, 0, 0, 0, 0, 0, 0, 0, 0, 0, 0, 0, 0, 0, 0, 0, 0, 0, 0, 0, 0, 0, 0, 0, 0, 0, 0, 0, 0, 0, 0, 0, 0, 0, 0, 0, 0, 0, 0, 0, 0, 0, 0, 0, 0, 0, 0, 0, 0, 0, 0, 0] : Vector Int 64), 9)) h
      refine T_ret (retq ?_ (.two (.agg rfl rfl rfl rfl tA38 (at_sub (at_all arL)) arL (pwB (arD fun _ => rfl)) (hns := (nsM fun _ => rfl))) (.tmp rfl (Dat.view (.b rfl)))))
      rfl
     ·
      refine T_skip ?_
      refine T_keep (kc 4 rfl <| kc 6 rfl <| kc 7 rfl <| kc 8 rfl <| kc 29 rfl <| kc 30 rfl <| kc 31 rfl <| kn) rfl ?_
      refine T_reg ?_
      refine R_q _ rfl (v_move (ov rfl)) ?_
      refine R_q _ rfl (v_add (ov rfl) (ov rfl) rfl) ?_
      refine R_q _ rfl (v_move (ov rfl)) ?_
      refine R_q _ rfl (v_conv (ov rfl) tI3 tI36 rfl) ?_
      obtain ⟨x4, h_x4, h⟩ := bnd h
      refine R_q _ rfl (v_ixAG (ov rfl) (ov rfl) tR38 rfl rfl h_x4) ?_
      refine R_w _ _ rfl (w_store (ov rfl) (ov rfl) (cells_scal tS36) rfl rfl rfl (arB h_x4) (cell1_all rfl) (arS h_x4)) ?_
      refine R_nil ?_
      refine T_keep (kc 4 rfl <| kc 6 rfl <| kc 29 rfl <| kc 30 rfl <| kc 31 rfl <| kn) rfl ?_
      refine T_reg ?_
      refine R_q _ rfl (v_add (ov rfl) (ov rfl) rfl) ?_
      refine R_q _ rfl (v_move (ov rfl)) ?_
      refine R_nil ?_
      exact ⟨((vset f2 (i64 (3 + i)) (u16 x3)), (i64 (i + 1))), h, Ent.sel [some 0, some 1] (sr 4 rfl (.ptr _ _ _ rfl) <| sr 6 rfl (.ptr _ _ _ rfl) <| sd 29 rfl rfl <| sd 30 rfl rfl <| sd 31 rfl rfl <| sn) (.cons rfl (ro1 (by exact Eq.trans (b := 64) arL tZ_38.symm) (rld (arD fun _ => rfl))) <| .cons rfl (ro1 (by exact Eq.trans (b := 64) arL tZ_38.symm) (rld (arD fun _ => rfl))) <| .nil) rfl rfl⟩
    ·
     refine T_exit ?_
     rw [lx h] at ho1
     replace h := ho1
     exact ⟨f2, h, Ent.sel [some 0, some 1] (sr 4 rfl (.ptr _ _ _ rfl) <| sr 6 rfl (.ptr _ _ _ rfl) <| sn) (.cons rfl (ro1 (by exact Eq.trans (b := 64) arL tZ_38.symm) (rld (arD fun _ => rfl))) <| .cons rfl (ro1 (by exact Eq.trans (b := 64) arL tZ_38.symm) (rld (arD fun _ => rfl))) <| .nil) rfl rfl⟩
   ·
    replace h := elr h
    obtain ⟨f, rfl⟩ : ∃ x, x = j := ⟨_, rfl⟩
    replace h := t1i h
    refine t1T ?_
    refine T_seq (T_reg ?_)
    refine R_q _ rfl (v_loadA (ov rfl) rfl rfl rfl tA38 (at_sub (at_all arL)) arL (hns := (nsM fun _ => rfl))) ?_
    obtain ⟨y, h_y, h⟩ := bnd h
    refine R_q _ rfl (v_call (ok_ref1_sealed h_y) (.cons (ov rfl) (.aggB (arD fun _ => rfl)) <| .nil)) ?_
    refine R_w _ _ rfl (w_store (ov rfl) (ov rfl) (cells_agg tA38 arL) rfl rfl rfl (put_le (at_all arL) arL) (cell1_all (arC fun _ => rfl)) (put_all (Eq.trans arL (Eq.symm arL)))) ?_
    refine R_q _ rfl (v_assign (ov rfl)) ?_
    refine R_nil ?_
    obtain rfl := rt (v := (y, 0)) h
    refine T_ret (retq ?_ (.two (.agg rfl rfl rfl rfl tA38 (at_sub (at_all arL)) arL (pwB (arD fun _ => rfl)) (hns := (nsM fun _ => rfl))) (.tmp rfl (Dat.view (.b rfl)))))
    rfl

theorem ok_ref1_Wide {f : Vector Int 64} {r : Bool} (h : ref1_Wide f = some r) :
  CSpec Tryd.prog gl0 57 [.agg (List.map C36 f.toList)] (.bool r) := by
 unfold ref1_Wide at h
 replace h := bnd0 h
 refine spec_of (by kernel_rfl) Tryd.func57 rfl rfl ?_
 intro w0 A
 refine T_seq (T_reg ?_)
 refine R_q _ rfl (v_boxD (cva (ov rfl)) arL tZ_38 (arD fun _ => rfl)) ?_
 refine R_q _ rfl (v_assign (ov rfl)) ?_
 refine R_nil ?_
 refine T_joinG (fun j => (.inr j)) (t0 ⟨[], []⟩) h (fun h => ?_) (fun j h => ?_)
 ·
  refine T_keep (kc 1 rfl <| kn) rfl ?_
  refine T_seq (T_reg ?_)
  refine R_q _ rfl (v_loadA_r (ov rfl) tA38 (at_sub (at_all arL)) arL) ?_
  refine R_q _ rfl (v_move (ov rfl)) ?_
  refine R_nil ?_
  refine T_block ?_
  obtain ⟨r1, hl1, ho1⟩ := bndL h
  refine T_loopG _ (t1 fun i => ⟨[(5, .agg (List.map C36 f.toList)), (6, .int .i64 i)], []⟩) _ hl1 (Ent.sel [] (sr 5 rfl (rAgg (rld (arD fun _ => rfl))) <| sd 6 rfl rfl <| sn) (.nil) rfl rfl) (fun n1 s1 h => ?_)
  obtain ⟨i, rfl⟩ : ∃ x, x = s1 := ⟨_, rfl⟩
  replace h := t1i h
  refine t1T ?_
  unfold ref1_Wide_L1 at h
  refine T_seq (T_reg ?_)
  refine R_q _ rfl (v_lss (ov rfl) (ov rfl)) ?_
  refine R_nil ?_
  refine T_seq ?_
  refine T_if h rfl (fun b7 h => ?_) (fun b7 h => ?_)
  ·
   refine T_skip ?_
   refine T_seq ?_
   refine T_block ?_
   refine T_keep (kc 5 rfl <| kc 6 rfl <| kn) rfl ?_
   refine T_seq (T_reg ?_)
   obtain ⟨x, h_x, h⟩ := bnd h
   refine R_q _ rfl (v_indexVG (ov rfl) (ov rfl) tR38 tS36 h_x) ?_
   refine R_q _ rfl (v_assign (ov rfl)) ?_
   refine R_nil ?_
   refine T_keep (kc 4 rfl <| kc 5 rfl <| kc 6 rfl <| kn) rfl ?_
   refine T_seq (T_reg ?_)
   refine R_q _ rfl (v_move (ov rfl)) ?_
   refine R_q _ rfl (v_gtr (ov rfl) (ov rfl)) ?_
   refine R_nil ?_
   refine T_keep (kc 5 rfl <| kc 6 rfl <| kc 10 rfl <| kn) rfl ?_
   refine T_if h rfl (fun b10 h => ?_) (fun b10 h => ?_)
   ·
    refine T_keep (kn) rfl ?_
    refine T_seq (T_reg ?_)
    refine R_q _ rfl (v_assign (ov rfl)) ?_
    refine R_nil ?_
    rw [lx h] at ho1
    replace h := ho1
    obtain rfl := rt (v := true) h
    refine T_ret (retq ?_ (.one (.tmp rfl (Dat.view (.b rfl)))))
    rfl
   ·
    refine T_skip ?_
    refine T_keep (kc 5 rfl <| kc 6 rfl <| kn) rfl ?_
    refine T_reg ?_
    refine R_q _ rfl (v_add (ov rfl) (ov rfl) rfl) ?_
    refine R_q _ rfl (v_move (ov rfl)) ?_
    refine R_nil ?_
    exact ⟨(i64 (i + 1)), h, Ent.sel [] (sr 5 rfl (rAgg (rld (arD fun _ => rfl))) <| sd 6 rfl rfl <| sn) (.nil) rfl rfl⟩
  ·
   refine T_exit ?_
   rw [lx h] at ho1
   replace h := ho1
   exact ⟨(), h, Ent.sel [] (sn) (.nil) rfl rfl⟩
 ·
  replace h := elr h
  cases j
  replace h := t0i h
  refine t0T ?_
  refine T_seq (T_reg ?_)
  refine R_q _ rfl (v_assign (ov rfl)) ?_
  refine R_nil ?_
  obtain rfl := rt (v := false) h
  refine T_ret (retq ?_ (.one (.tmp rfl (Dat.view (.b rfl)))))
  rfl

theorem ok_ref1_Half {f : Vector Int 64} {n : Int} {r : Int} (h : ref1_Half f n = some r) :
  CSpec Tryd.prog gl0 85 [.agg (List.map C36 f.toList), .int .i64 n] (.int .i64 r) := by
 unfold ref1_Half at h
 replace h := bnd0 h
 refine spec_of (by kernel_rfl) Tryd.func85 rfl rfl ?_
 intro w0 A
 refine T_seq (T_reg ?_)
 refine R_q _ rfl (v_boxD (cva (ov rfl)) arL tZ_38 (arD fun _ => rfl)) ?_
 refine R_q _ rfl (v_assign (ov rfl)) ?_
 refine R_nil ?_
 refine T_keep (kc 1 rfl <| kc 2 rfl <| kc 4 rfl <| kn) rfl ?_
 refine T_seq (T_reg ?_)
 refine R_q _ rfl (v_move (ov rfl)) ?_
 obtain ⟨q, h_q, h⟩ := bnd h
 refine R_q _ rfl (v_quoG (ov rfl) (ov rfl) h_q) ?_
 obtain ⟨x, h_x, h⟩ := bnd h
 refine R_q _ rfl (v_ixRG (ov rfl) (ov rfl) tR38 h_x) ?_
 refine R_q _ rfl (v_loadS_r (ov rfl) tS36 (at_get (at_at (o := 0) (o' := (q.toNat * 1)) (at_all arL) (at_v1 h_x)))) ?_
 refine R_q _ rfl (v_conv (ov rfl) tI36 tI3 rfl) ?_
 refine R_q _ rfl (v_move (ov rfl)) ?_
 obtain ⟨q2, h_q2, h⟩ := bnd h
 refine R_q _ rfl (v_remG (ov rfl) (ov rfl) h_q2) ?_
 refine R_q _ rfl (v_mul (ov rfl) (ov rfl) rfl) ?_
 refine R_q _ rfl (v_sub (ov rfl) (ov rfl) rfl) ?_
 obtain ⟨q3, h_q3, h⟩ := bnd h
 refine R_q _ rfl (v_shrG (ov rfl) (ov rfl) h_q3) ?_
 refine R_q _ rfl (v_and_ (ov rfl) (ov rfl)) ?_
 refine R_q _ rfl (v_assign (ov rfl)) ?_
 refine R_nil ?_
 obtain rfl := rt (v := (band .i64 q3 15)) h
 refine T_ret (retq ?_ (.one (.tmp rfl (Dat.view (.b rfl)))))
 rfl

theorem ok_ref1_bytes {f : Vector Int 64} {r : (List Int)} (h : ref1_bytes f = some r) :
  CSpec Tryd.prog gl0 58 [.agg (List.map C36 f.toList)] (.sl 5 (List.map R5 r)) := by
 unfold ref1_bytes at h
 replace h := bnd0 h
 refine spec_of (by kernel_rfl) Tryd.func58 rfl rfl ?_
 intro w0 A
 refine T_seq (T_reg ?_)
 refine R_q _ rfl (v_boxD (cva (ov rfl)) arL tZ_38 (arD fun _ => rfl)) ?_
 refine R_q _ rfl (v_assign (ov rfl)) ?_
 refine R_nil ?_
 refine T_keep (kc 1 rfl <| kn) rfl ?_
 refine T_seq (T_reg ?_)
 obtain ⟨l, h_l, h⟩ := bnd h
 refine R_w _ _ rfl (w_makeG [none] (r := 0) (f := R5) (z0 := 0) rfl (ov rfl) (ov rfl) tL33 rfl tZ5 rfl rfl h_l) ?_
 refine R_q _ rfl (v_assign (ov rfl)) ?_
 refine R_nil ?_
 refine T_joinG id (t1 fun out => ⟨[(3, .own 0 out.length)], [some ⟨5, List.map R5 out⟩]⟩) h (fun h => ?_) (fun j h => ?_)
 ·
  refine T_keep (kc 1 rfl <| kc 3 rfl <| kn) rfl ?_
  refine T_seq (T_reg ?_)
  refine R_q _ rfl (v_move (ov rfl)) ?_
  refine R_q _ rfl (v_lenO (ov rfl) rfl rfl tL33) ?_
  refine R_q _ rfl (v_move (ov rfl)) ?_
  refine R_nil ?_
  refine T_block ?_
  obtain ⟨r1, hl1, ho1⟩ := bndL h
  refine T_loopG _ (t2 fun out2 i => ⟨[(1, .rp (List.map C36 f.toList) 0), (3, .own 0 out2.length), (7, .int .i64 (l.length : Int)), (8, .int .i64 i)], [some ⟨5, List.map R5 out2⟩]⟩) _ hl1 (Ent.sel [some 0] (sd 1 rfl rfl <| sr 3 rfl (.own _ rfl) <| sd 7 rfl rfl <| sd 8 rfl rfl <| sn) (.cons rfl (roM D5) <| .nil) rfl rfl) (fun n1 s1 h => ?_)
  obtain ⟨out2, i⟩ := s1
  replace h := t2i h
  refine t2T ?_
  unfold ref1_bytes_L1 at h
  refine T_seq (T_reg ?_)
  refine R_q _ rfl (v_lss (ov rfl) (ov rfl)) ?_
  refine R_nil ?_
  refine T_seq ?_
  refine T_if h rfl (fun b9 h => ?_) (fun b9 h => ?_)
  ·
   refine T_skip ?_
   refine T_seq ?_
   refine T_block ?_
   refine T_keep (kc 1 rfl <| kc 3 rfl <| kc 7 rfl <| kc 8 rfl <| kn) rfl ?_
   refine T_seq (T_reg ?_)
   refine R_q _ rfl (v_move (ov rfl)) ?_
   refine R_q _ rfl (v_assign (ov rfl)) ?_
   refine R_nil ?_
   refine T_keep (kc 1 rfl <| kc 3 rfl <| kc 4 rfl <| kc 7 rfl <| kc 8 rfl <| kn) rfl ?_
   refine T_draw (cw := md0) (by kernel_rfl) ?_
   refine D_q0 0 _ rfl (by kernel_rfl) rfl rfl (v_move (ov rfl)) ?_
   refine D_q0 1 _ rfl (by kernel_rfl) rfl rfl (v_move (ov rfl)) ?_
   refine D_q0 2 _ rfl (by kernel_rfl) rfl rfl (v_loadA_r (ov rfl) tA38 (at_sub (at_all arL)) arL) ?_
   refine D_q0 3 _ rfl (by kernel_rfl) rfl rfl (v_move (ov rfl)) ?_
   refine D_q0 4 _ rfl (by kernel_rfl) rfl rfl (v_mul (ov rfl) (ov rfl) rfl) ?_
   obtain ⟨y, h_y, h⟩ := bnd h
   refine D_q0 5 _ rfl (by kernel_rfl) rfl rfl (v_call (ok_ref1_Half h_y) (.cons (ov rfl) (.aggB (arD fun _ => rfl)) <| .cons (ov rfl) (.b rfl) <| .nil)) ?_
   refine D_q0 6 _ rfl (by kernel_rfl) rfl rfl (v_mul (ov rfl) (ov rfl) rfl) ?_
   refine D_q0 7 _ rfl (by kernel_rfl) rfl rfl (v_loadA_r (ov rfl) tA38 (at_sub (at_all arL)) arL) ?_
   refine D_q0 8 _ rfl (by kernel_rfl) rfl rfl (v_move (ov rfl)) ?_
   refine D_q0 9 _ rfl (by kernel_rfl) rfl rfl (v_mul (ov rfl) (ov rfl) rfl) ?_
   refine D_q0 10 _ rfl (by kernel_rfl) rfl rfl (v_add (ov rfl) (ov rfl) rfl) ?_
   obtain ⟨y2, h_y2, h⟩ := bnd h
   refine D_q0 11 _ rfl (by kernel_rfl) rfl rfl (v_call (ok_ref1_Half h_y2) (.cons (ov rfl) (.aggB (arD fun _ => rfl)) <| .cons (ov rfl) (.b rfl) <| .nil)) ?_
   refine D_q0 12 _ rfl (by kernel_rfl) rfl rfl (v_add (ov rfl) (ov rfl) rfl) ?_
   refine D_q0 13 _ rfl (by kernel_rfl) rfl rfl (v_conv (ov rfl) tI3 tI5 rfl) ?_
   obtain ⟨x, h_x, h⟩ := bnd h
   refine D_q0 14 _ rfl (by kernel_rfl) rfl rfl (v_ixOG (ov rfl) (ov rfl) tL33 rfl rfl h_x) ?_
   refine D_one 15 _ _ rfl (by kernel_rfl) rfl rfl (fun h => by cases h) (fun h => by cases h) (w_storeR (u' := (u8 (i64 ((i64 (16 * y)) + y2)))) (ov rfl) (ov rfl) (cells_scal tS5) rfl rfl h_x rfl (cell1_all rfl) rfl) ?_
   refine D_done (by kernel_rfl) ?_
   refine T_keep (kc 1 rfl <| kc 3 rfl <| kc 7 rfl <| kc 8 rfl <| kn) rfl ?_
   refine T_reg ?_
   refine R_q _ rfl (v_add (ov rfl) (ov rfl) rfl) ?_
   refine R_q _ rfl (v_move (ov rfl)) ?_
   refine R_nil ?_
   exact ⟨((out2.set i.toNat (u8 (i64 ((i64 (16 * y)) + y2)))), (i64 (i + 1))), h, Ent.sel [some 0] (sd 1 rfl rfl <| sr 3 rfl (ownE (Eq.symm ((List.length_set ..).trans rfl)) rfl) <| sd 7 rfl rfl <| sd 8 rfl rfl <| sn) (.cons rfl (roM D5) <| .nil) rfl rfl⟩
  ·
   refine T_exit ?_
   rw [lx h] at ho1
   replace h := ho1
   exact ⟨out2, h, Ent.sel [some 0] (sr 3 rfl (.own _ rfl) <| sn) (.cons rfl (roM D5) <| .nil) rfl rfl⟩
 ·
  obtain ⟨out, rfl⟩ : ∃ x, x = j := ⟨_, rfl⟩
  replace h := t1i h
  refine t1T ?_
  refine T_seq (T_reg ?_)
  refine R_q _ rfl (v_move (ov rfl)) ?_
  refine R_q _ rfl (v_assign (ov rfl)) ?_
  refine R_nil ?_
  obtain rfl := rt (v := out) h
  refine T_ret (retq ?_ (.one (.tmp rfl (View.ownM rfl rfl D5))))
  rfl

theorem ok_ref1_ToBytes {f : Vector Int 64} {r : (List Int) × Int} (h : ref1_ToBytes f = some r) :
  CSpec Tryd.prog gl0 32 [.agg (List.map C36 f.toList)] (.tuple [.sl 5 (List.map R5 r.1), .int .i64 r.2]) := by
 unfold ref1_ToBytes at h
 replace h := bnd0 h
 refine spec_of (by kernel_rfl) Tryd.func32 rfl rfl ?_
 intro w0 A
 refine T_seq (T_reg ?_)
 refine R_q _ rfl (v_boxD (cva (ov rfl)) arL tZ_38 (arD fun _ => rfl)) ?_
 refine R_q _ rfl (v_assign (ov rfl)) ?_
 refine R_q _ rfl (v_assign (ov rfl)) ?_
 refine R_nil ?_
 refine T_seq ?_
 refine T_keep (kc 1 rfl <| kn) rfl ?_
 refine T_seq (T_reg ?_)
 refine R_q _ rfl (v_loadA_r (ov rfl) tA38 (at_sub (at_all arL)) arL) ?_
 obtain ⟨y, h_y, h⟩ := bnd h
 refine R_q _ rfl (v_call (ok_ref1_Wide h_y) (.cons (ov rfl) (.aggB (arD fun _ => rfl)) <| .nil)) ?_
 refine R_nil ?_
 refine T_keep (kc 1 rfl <| kc 5 rfl <| kn) rfl ?_
 refine T_if h rfl (fun b5 h => ?_) (fun b5 h => ?_)
 ·
  refine T_keep (kn) rfl ?_
  refine T_seq (T_reg ?_)
  refine R_q _ rfl (v_assign (ov rfl)) ?_
  refine R_q _ rfl (v_assign (ov rfl)) ?_
  refine R_nil ?_
  obtain rfl := rt (v := ([], 9)) h
  refine T_ret (retq ?_ (.two (.tmp rfl (View.nils 5)) (.tmp rfl (Dat.view (.b rfl)))))
  rfl
 ·
  refine T_skip ?_
  refine T_keep (kc 1 rfl <| kn) rfl ?_
  refine T_seq (T_reg ?_)
  refine R_q _ rfl (v_loadA_r (ov rfl) tA38 (at_sub (at_all arL)) arL) ?_
  obtain ⟨y2, h_y2, h⟩ := bnd h
  refine R_q _ rfl (v_call (ok_ref1_bytes h_y2) (.cons (ov rfl) (.aggB (arD fun _ => rfl)) <| .nil)) ?_
  refine R_q _ rfl (v_assign (ov rfl)) ?_
  refine R_q _ rfl (v_assign (ov rfl)) ?_
  refine R_nil ?_
  obtain rfl := rt (v := (y2, 0)) h
  refine T_ret (retq ?_ (.two (.tmp rfl (Dat.view (.b rfl))) (.tmp rfl (Dat.view (.b rfl)))))
  rfl

theorem ok_frame_Sync {number : Int} {r : Int × Int} (h : frame_Sync number = some r) :
  CSpec Tryd.prog gl0 134 [.int .i64 number] (.tuple [.int .i64 r.1, .int .i64 r.2]) := by
 unfold frame_Sync at h
 replace h := bnd0 h
 refine spec_of (by kernel_rfl) Tryd.func134 rfl rfl ?_
 intro w0 A
 refine T_seq (T_reg ?_)
 refine R_q _ rfl (v_assign (ov rfl)) ?_
 refine R_q _ rfl (v_assign (ov rfl)) ?_
 refine R_nil ?_
 refine T_seq ?_
 refine T_keep (kc 0 rfl <| kn) rfl ?_
 refine T_seq (T_reg ?_)
 refine R_q _ rfl (v_move (ov rfl)) ?_
 refine R_q _ rfl (v_lss (ov rfl) (ov rfl)) ?_
 refine R_q _ rfl (v_move (ov rfl)) ?_
 refine R_q _ rfl (.guarded ((decide (number < 0)) == false) rfl rfl rfl rfl fun h => v_move (ov rfl)) ?_
 refine R_q _ rfl (.guarded ((decide (number < 0)) == false) rfl rfl rfl rfl fun h => v_geq (ow rfl h) (ov rfl)) ?_
 refine R_q _ rfl (v_or (ov rfl) (fun hp => ow rfl (gF hp))) ?_
 refine R_nil ?_
 refine T_keep (kc 0 rfl <| kc 9 rfl <| kn) rfl ?_
 refine T_if h rfl (fun b9 h => ?_) (fun b9 h => ?_)
 ·
  refine T_keep (kn) rfl ?_
  refine T_seq (T_reg ?_)
  refine R_q _ rfl (v_assign (ov rfl)) ?_
  refine R_q _ rfl (v_assign (ov rfl)) ?_
  refine R_nil ?_
  obtain rfl := rt (v := (0, 9)) h
  refine T_ret (retq ?_ (.two (.tmp rfl (Dat.view (.b rfl))) (.tmp rfl (Dat.view (.b rfl)))))
  rfl
 ·
  refine T_skip ?_
  refine T_keep (kc 0 rfl <| kn) rfl ?_
  refine T_seq (T_reg ?_)
  refine R_q _ rfl (v_move (ov rfl)) ?_
  obtain ⟨q, h_q, h⟩ := bnd h
  refine R_q _ rfl (v_remG (ov rfl) (ov rfl) h_q) ?_
  obtain ⟨x, h_x, h⟩ := bnd h
  refine R_q _ rfl (v_ixRG (og (v := gv_frame_syncs) (k := .u16) (f := C36) (by simp [gl0]) (fun _ => rfl)) (ov rfl) tR202 h_x) ?_
  refine R_q _ rfl (v_loadS_r (ov rfl) tS36 (at_get (at_at (o := 0) (o' := (q.toNat * 1)) (at_all arL) (at_v1 h_x)))) ?_
  refine R_q _ rfl (v_conv (ov rfl) tI36 tI3 rfl) ?_
  refine R_q _ rfl (v_assign (ov rfl)) ?_
  refine R_q _ rfl (v_assign (ov rfl)) ?_
  refine R_nil ?_
  obtain rfl := rt (v := ((i64 x), 0)) h
  refine T_ret (retq ?_ (.two (.tmp rfl (Dat.view (.b rfl))) (.tmp rfl (Dat.view (.b rfl)))))
  rfl

theorem ok_salvage_isSync {w : Int} {r : Bool} (h : salvage_isSync w = some r) :
  CSpec Tryd.prog gl0 173 [.int .u16 w] (.bool r) := by
 unfold salvage_isSync at h
 replace h := bnd0 h
 refine spec_of (by kernel_rfl) Tryd.func173 rfl rfl ?_
 intro w0 A
 refine T_seq (T_reg ?_)
 refine R_q _ rfl (v_assign (ov rfl)) ?_
 refine R_nil ?_
 refine T_joinG (fun j => (.inr j)) (t0 ⟨[], []⟩) h (fun h => ?_) (fun j h => ?_)
 ·
  refine T_keep (kc 0 rfl <| kn) rfl ?_
  refine T_seq (T_reg ?_)
  refine R_q _ rfl (v_move (ov rfl)) ?_
  refine R_nil ?_
  refine T_block ?_
  obtain ⟨r1, hl1, ho1⟩ := bndL h
  refine T_loopG _ (t1 fun i => ⟨[(0, .int .u16 w), (6, .int .i64 i)], []⟩) _ hl1 (Ent.sel [] (sd 0 rfl rfl <| sd 6 rfl rfl <| sn) (.nil) rfl rfl) (fun n1 s1 h => ?_)
  obtain ⟨i, rfl⟩ : ∃ x, x = s1 := ⟨_, rfl⟩
  replace h := t1i h
  refine t1T ?_
  unfold salvage_isSync_L1 at h
  refine T_seq (T_reg ?_)
  refine R_q _ rfl (v_lss (ov rfl) (ov rfl)) ?_
  refine R_nil ?_
  refine T_seq ?_
  refine T_if h rfl (fun b7 h => ?_) (fun b7 h => ?_)
  ·
   refine T_skip ?_
   refine T_seq ?_
   refine T_block ?_
   refine T_keep (kc 0 rfl <| kc 6 rfl <| kn) rfl ?_
   refine T_seq (T_reg ?_)
   refine R_q _ rfl (v_move (ov rfl)) ?_
   refine R_q _ rfl (v_assign (ov rfl)) ?_
   refine R_nil ?_
   refine T_keep (kc 0 rfl <| kc 3 rfl <| kc 6 rfl <| kn) rfl ?_
   refine T_seq (T_reg ?_)
   refine R_q _ rfl (v_move (ov rfl)) ?_
   obtain ⟨y, h_y, h⟩ := bnd h
   refine R_q _ rfl (v_call (ok_frame_Sync h_y) (.cons (ov rfl) (.b rfl) <| .nil)) ?_
   refine R_q _ rfl (v_move (ov rfl)) ?_
   refine R_q _ rfl (v_extract (ov rfl) rfl) ?_
   refine R_q _ rfl (v_extract (ov rfl) rfl) ?_
   refine R_q _ rfl (v_assign (ov rfl)) ?_
   refine R_q _ rfl (v_assign (ov rfl)) ?_
   refine R_nil ?_
   refine T_keep (kc 0 rfl <| kc 4 rfl <| kc 6 rfl <| kn) rfl ?_
   refine T_seq (T_reg ?_)
   refine R_q _ rfl (v_move (ov rfl)) ?_
   refine R_q _ rfl (v_conv (ov rfl) tI3 tI36 rfl) ?_
   refine R_q _ rfl (v_move (ov rfl)) ?_
   refine R_q _ rfl (v_eql (ov rfl) (ov rfl)) ?_
   refine R_nil ?_
   refine T_keep (kc 0 rfl <| kc 6 rfl <| kc 17 rfl <| kn) rfl ?_
   refine T_if h rfl (fun b17 h => ?_) (fun b17 h => ?_)
   ·
    refine T_keep (kn) rfl ?_
    refine T_seq (T_reg ?_)
    refine R_q _ rfl (v_assign (ov rfl)) ?_
    refine R_nil ?_
    rw [lx h] at ho1
    replace h := ho1
    obtain rfl := rt (v := true) h
    refine T_ret (retq ?_ (.one (.tmp rfl (Dat.view (.b rfl)))))
    rfl
   ·
    refine T_skip ?_
    refine T_keep (kc 0 rfl <| kc 6 rfl <| kn) rfl ?_
    refine T_reg ?_
    refine R_q _ rfl (v_add (ov rfl) (ov rfl) rfl) ?_
    refine R_q _ rfl (v_move (ov rfl)) ?_
    refine R_nil ?_
    exact ⟨(i64 (i + 1)), h, Ent.sel [] (sd 0 rfl rfl <| sd 6 rfl rfl <| sn) (.nil) rfl rfl⟩
  ·
   refine T_exit ?_
   rw [lx h] at ho1
   replace h := ho1
   exact ⟨(), h, Ent.sel [] (sn) (.nil) rfl rfl⟩
 ·
  replace h := elr h
  cases j
  replace h := t0i h
  refine t0T ?_
  refine T_seq (T_reg ?_)
  refine R_q _ rfl (v_assign (ov rfl)) ?_
  refine R_nil ?_
  obtain rfl := rt (v := false) h
  refine T_ret (retq ?_ (.one (.tmp rfl (Dat.view (.b rfl)))))
  rfl

theorem ok_salvage_frameIn {w : Vector Int 192} {r : (Vector Int 64)} (h : salvage_frameIn w = some r) :
  CSpec Tryd.prog gl0 174 [.agg (List.map C5 w.toList)] (.agg (List.map C36 r.toList)) := by
 unfold salvage_frameIn at h
 replace h := bnd0 h
 refine spec_of (by kernel_rfl) Tryd.func174 rfl rfl ?_
 intro w0 A
 refine T_seq (T_reg ?_)
 refine R_q _ rfl (v_boxD (cva (ov rfl)) arL tZ_225 (arD fun _ => rfl)) ?_
 refine R_w _ _ rfl (w_alloc (row := (List.map C36 (Vector.replicate 64 0).toList)) 0 rfl tZ38 rfl tZ_38) ?_
 refine R_nil ?_
 refine T_keep (kc 1 rfl <| kc 2 rfl <| kn) rfl ?_
 refine T_seq (T_reg ?_)
 refine R_w _ _ rfl (w_alloc (row := (List.map C36 (Vector.replicate 64 0).toList)) 1 rfl tZ38 rfl tZ_38) ?_
 refine R_nil ?_
 refine T_joinG id (t1 fun f => ⟨[(2, .ptr 0 1 0 0), (3, .ptr 1 1 0 0)], [some ⟨38, [(List.map C36 (Vector.replicate 64 0).toList)]⟩, some ⟨38, [(List.map C36 f.toList)]⟩]⟩) h (fun h => ?_) (fun j h => ?_)
 ·
  refine T_seq (T_reg ?_)
  refine R_q _ rfl (v_move (ov rfl)) ?_
  refine R_nil ?_
  refine T_block ?_
  obtain ⟨r1, hl1, ho1⟩ := bndL h
  refine T_loopG _ (t2 fun f2 i => ⟨[(1, .rp (List.map C5 w.toList) 0), (2, .ptr 0 1 0 0), (3, .ptr 1 1 0 0), (5, .int .i64 i)], [some ⟨38, [(List.map C36 (Vector.replicate 64 0).toList)]⟩, some ⟨38, [(List.map C36 f2.toList)]⟩]⟩) _ hl1 (Ent.sel [some 0, some 1] (sd 1 rfl rfl <| sr 2 rfl (.ptr _ _ _ rfl) <| sr 3 rfl (.ptr _ _ _ rfl) <| sd 5 rfl rfl <| sn) (.cons rfl (ro1 (by exact Eq.trans (b := 64) arL tZ_38.symm) (rld (arD fun _ => rfl))) <| .cons rfl (ro1 (by exact Eq.trans (b := 64) arL tZ_38.symm) (rld (arD fun _ => rfl))) <| .nil) rfl rfl) (fun n1 s1 h => ?_)
  obtain ⟨f2, i⟩ := s1
  replace h := t2i h
  refine t2T ?_
  unfold salvage_frameIn_L1 at h
  refine T_seq (T_reg ?_)
  refine R_q _ rfl (v_lss (ov rfl) (ov rfl)) ?_
  refine R_nil ?_
  refine T_seq ?_
  refine T_if h rfl (fun b6 h => ?_) (fun b6 h => ?_)
  ·
   refine T_skip ?_
   refine T_seq ?_
   refine T_block ?_
   refine T_keep (kc 1 rfl <| kc 2 rfl <| kc 3 rfl <| kc 5 rfl <| kn) rfl ?_
   refine T_seq (T_reg ?_)
   refine R_q _ rfl (v_move (ov rfl)) ?_
   refine R_q _ rfl (v_assign (ov rfl)) ?_
   refine R_nil ?_
   refine T_keep (kc 1 rfl <| kc 2 rfl <| kc 3 rfl <| kc 4 rfl <| kc 5 rfl <| kn) rfl ?_
   refine T_reg ?_
   refine R_q _ rfl (v_move (ov rfl)) ?_
   refine R_q _ rfl (v_move (ov rfl)) ?_
   refine R_q _ rfl (v_mul (ov rfl) (ov rfl) rfl) ?_
   refine R_q _ rfl (v_move (ov rfl)) ?_
   refine R_q _ rfl (v_mul (ov rfl) (ov rfl) rfl) ?_
   refine R_q _ rfl (v_add (ov rfl) (ov rfl) rfl) ?_
   obtain ⟨l, h_l, h⟩ := bnd h
   refine R_q _ rfl (v_slR (f := C5) (ov rfl) tR225 tZ_5 (at_all arL) rfl (oi (ov rfl)) (oi (ov rfl)) h_l) ?_
   obtain ⟨y, h_y, h⟩ := bnd h
   refine R_q _ rfl (v_call (ok_salvage_wordAt h_y) (.cons (ov rfl) (.b rfl) <| .nil)) ?_
   obtain ⟨x, h_x, h⟩ := bnd h
   refine R_q _ rfl (v_ixAG (ov rfl) (ov rfl) tR38 rfl rfl h_x) ?_
   refine R_w _ _ rfl (w_store (ov rfl) (ov rfl) (cells_scal tS36) rfl rfl rfl (arB h_x) (cell1_all rfl) (arS h_x)) ?_
   refine R_nil ?_
   refine T_keep (kc 1 rfl <| kc 2 rfl <| kc 3 rfl <| kc 5 rfl <| kn) rfl ?_
   refine T_reg ?_
   refine R_q _ rfl (v_add (ov rfl) (ov rfl) rfl) ?_
   refine R_q _ rfl (v_move (ov rfl)) ?_
   refine R_nil ?_
   exact ⟨((vset f2 i y), (i64 (i + 1))), h, Ent.sel [some 0, some 1] (sd 1 rfl rfl <| sr 2 rfl (.ptr _ _ _ rfl) <| sr 3 rfl (.ptr _ _ _ rfl) <| sd 5 rfl rfl <| sn) (.cons rfl (ro1 (by exact Eq.trans (b := 64) arL tZ_38.symm) (rld (arD fun _ => rfl))) <| .cons rfl (ro1 (by exact Eq.trans (b := 64) arL tZ_38.symm) (rld (arD fun _ => rfl))) <| .nil) rfl rfl⟩
  ·
   refine T_exit ?_
   rw [lx h] at ho1
   replace h := ho1
   exact ⟨f2, h, Ent.sel [some 0, some 1] (sr 2 rfl (.ptr _ _ _ rfl) <| sr 3 rfl (.ptr _ _ _ rfl) <| sn) (.cons rfl (ro1 (by exact Eq.trans (b := 64) arL tZ_38.symm) (rld (arD fun _ => rfl))) <| .cons rfl (ro1 (by exact Eq.trans (b := 64) arL tZ_38.symm) (rld (arD fun _ => rfl))) <| .nil) rfl rfl⟩
 ·
  obtain ⟨f, rfl⟩ : ∃ x, x = j := ⟨_, rfl⟩
  replace h := t1i h
  refine t1T ?_
  refine T_seq (T_reg ?_)
  refine R_q _ rfl (v_loadA (ov rfl) rfl rfl rfl tA38 (at_sub (at_all arL)) arL (hns := (nsM fun _ => rfl))) ?_
  refine R_w _ _ rfl (w_store (ov rfl) (ov rfl) (cells_agg tA38 arL) rfl rfl rfl (put_le (at_all arL) arL) (cell1_all (arC fun _ => rfl)) (put_all (Eq.trans arL (Eq.symm arL)))) ?_
  refine R_nil ?_
  obtain rfl := rt (v := f) h
  refine T_ret (retq ?_ (.one (.agg rfl rfl rfl rfl tA38 (at_sub (at_all arL)) arL (pwB (arD fun _ => rfl)) (hns := (nsM fun _ => rfl)))))
  rfl

theorem ok_frame_wide {f : Vector Int 64} {r : Bool} (h : frame_wide f = some r) :
  CSpec Tryd.prog gl0 119 [.rp (List.map C36 f.toList) 0] (.bool r) := by
 unfold frame_wide at h
 replace h := bnd0 h
 refine spec_of (by kernel_rfl) Tryd.func119 rfl rfl ?_
 intro w0 A
 refine T_seq (T_reg ?_)
 refine R_q _ rfl (v_assign (ov rfl)) ?_
 refine R_nil ?_
 refine T_joinG (fun j => (.inr j)) (t0 ⟨[], []⟩) h (fun h => ?_) (fun j h => ?_)
 ·
  refine T_keep (kc 0 rfl <| kn) rfl ?_
  refine T_seq (T_reg ?_)
  refine R_q _ rfl (v_move (ov rfl)) ?_
  refine R_nil ?_
  refine T_block ?_
  obtain ⟨r1, hl1, ho1⟩ := bndL h
  refine T_loopG _ (t1 fun i => ⟨[(0, .rp (List.map C36 f.toList) 0), (4, .int .i64 i)], []⟩) _ hl1 (Ent.sel [] (sd 0 rfl rfl <| sd 4 rfl rfl <| sn) (.nil) rfl rfl) (fun n1 s1 h => ?_)
  obtain ⟨i, rfl⟩ : ∃ x, x = s1 := ⟨_, rfl⟩
  replace h := t1i h
  refine t1T ?_
  unfold frame_wide_L1 at h
  refine T_seq (T_reg ?_)
  refine R_q _ rfl (v_lss (ov rfl) (ov rfl)) ?_
  refine R_nil ?_
  refine T_seq ?_
  refine T_if h rfl (fun b5 h => ?_) (fun b5 h => ?_)
  ·
   refine T_skip ?_
   refine T_seq ?_
   refine T_block ?_
   refine T_keep (kc 0 rfl <| kc 4 rfl <| kn) rfl ?_
   refine T_seq (T_reg ?_)
   refine R_q _ rfl (v_move (ov rfl)) ?_
   refine R_q _ rfl (v_assign (ov rfl)) ?_
   refine R_nil ?_
   refine T_keep (kc 0 rfl <| kc 3 rfl <| kc 4 rfl <| kn) rfl ?_
   refine T_seq (T_reg ?_)
   refine R_q _ rfl (v_move (ov rfl)) ?_
   refine R_q _ rfl (v_move (ov rfl)) ?_
   refine R_q _ rfl (v_nilCheckR (ov rfl)) ?_
   obtain ⟨x, h_x, h⟩ := bnd h
   refine R_q _ rfl (v_ixRG (ov rfl) (ov rfl) tR38 h_x) ?_
   refine R_q _ rfl (v_loadS_r (ov rfl) tS36 (at_get (at_at (o := 0) (o' := (i.toNat * 1)) (at_all arL) (at_v1 h_x)))) ?_
   refine R_q _ rfl (v_gtr (ov rfl) (ov rfl)) ?_
   refine R_nil ?_
   refine T_keep (kc 0 rfl <| kc 4 rfl <| kc 12 rfl <| kn) rfl ?_
   refine T_if h rfl (fun b12 h => ?_) (fun b12 h => ?_)
   ·
    refine T_keep (kn) rfl ?_
    refine T_seq (T_reg ?_)
    refine R_q _ rfl (v_assign (ov rfl)) ?_
    refine R_nil ?_
    rw [lx h] at ho1
    replace h := ho1
    obtain rfl := rt (v := true) h
    refine T_ret (retq ?_ (.one (.tmp rfl (Dat.view (.b rfl)))))
    rfl
   ·
    refine T_skip ?_
    refine T_keep (kc 0 rfl <| kc 4 rfl <| kn) rfl ?_
    refine T_reg ?_
    refine R_q _ rfl (v_add (ov rfl) (ov rfl) rfl) ?_
    refine R_q _ rfl (v_move (ov rfl)) ?_
    refine R_nil ?_
    exact ⟨(i64 (i + 1)), h, Ent.sel [] (sd 0 rfl rfl <| sd 4 rfl rfl <| sn) (.nil) rfl rfl⟩
  ·
   refine T_exit ?_
   rw [lx h] at ho1
   replace h := ho1
   exact ⟨(), h, Ent.sel [] (sn) (.nil) rfl rfl⟩
 ·
  replace h := elr h
  cases j
  replace h := t0i h
  refine t0T ?_
  refine T_seq (T_reg ?_)
  refine R_q _ rfl (v_assign (ov rfl)) ?_
  refine R_nil ?_
  obtain rfl := rt (v := false) h
  refine T_ret (retq ?_ (.one (.tmp rfl (Dat.view (.b rfl)))))
  rfl

theorem ok_frame_data {w : Int} {r : Int} (h : frame_data w = some r) :
  CSpec Tryd.prog gl0 154 [.int .u16 w] (.int .i64 r) := by
 unfold frame_data at h
 replace h := bnd0 h
 refine spec_of (by kernel_rfl) Tryd.func154 rfl rfl ?_
 intro w0 A
 refine T_seq (T_reg ?_)
 refine R_q _ rfl (v_assign (ov rfl)) ?_
 refine R_nil ?_
 refine T_seq (T_reg ?_)
 refine R_q _ rfl (v_move (ov rfl)) ?_
 refine R_q _ rfl (v_and_ (ov rfl) (ov rfl)) ?_
 refine R_q _ rfl (v_conv (ov rfl) tI36 tI3 rfl) ?_
 refine R_q _ rfl (v_assign (ov rfl)) ?_
 refine R_nil ?_
 obtain rfl := rt (v := (i64 (band .u16 w 2047))) h
 refine T_ret (retq ?_ (.one (.tmp rfl (Dat.view (.b rfl)))))
 rfl

theorem ok_frame_numberOf {f : Vector Int 64} {r : Int} (h : frame_numberOf f = some r) :
  CSpec Tryd.prog gl0 128 [.rp (List.map C36 f.toList) 0] (.int .i64 r) := by
 unfold frame_numberOf at h
 replace h := bnd0 h
 refine spec_of (by kernel_rfl) Tryd.func128 rfl rfl ?_
 intro w0 A
 refine T_seq (T_reg ?_)
 refine R_q _ rfl (v_assign (ov rfl)) ?_
 refine R_nil ?_
 refine T_seq (T_draw (cw := md0) (by kernel_rfl) ?_)
 refine D_q0 0 _ rfl (by kernel_rfl) rfl rfl (v_move (ov rfl)) ?_
 refine D_q0 1 _ rfl (by kernel_rfl) rfl rfl (v_nilCheckR (ov rfl)) ?_
 obtain ⟨x, h_x, h⟩ := bnd h
 refine D_q0 2 _ rfl (by kernel_rfl) rfl rfl (v_ixRG (ov rfl) (ov rfl) tR38 h_x) ?_
 refine D_q0 3 _ rfl (by kernel_rfl) rfl rfl (v_loadS_r (ov rfl) tS36 (at_get (at_at (o := 0) (o' := ((Int.toNat 1) * 1)) (at_all arL) (at_v1 h_x)))) ?_
 obtain ⟨y, h_y, h⟩ := bnd h
 refine D_q0 4 _ rfl (by kernel_rfl) rfl rfl (v_call (ok_frame_data h_y) (.cons (ov rfl) (.b rfl) <| .nil)) ?_
 refine D_q0 5 _ rfl (by kernel_rfl) rfl rfl (v_move (ov rfl)) ?_
 refine D_q0 6 _ rfl (by kernel_rfl) rfl rfl (v_nilCheckR (ov rfl)) ?_
 obtain ⟨x2, h_x2, h⟩ := bnd h
 refine D_q0 7 _ rfl (by kernel_rfl) rfl rfl (v_ixRG (ov rfl) (ov rfl) tR38 h_x2) ?_
 refine D_q0 8 _ rfl (by kernel_rfl) rfl rfl (v_loadS_r (ov rfl) tS36 (at_get (at_at (o := 0) (o' := ((Int.toNat 2) * 1)) (at_all arL) (at_v1 h_x2)))) ?_
 obtain ⟨y2, h_y2, h⟩ := bnd h
 refine D_q0 9 _ rfl (by kernel_rfl) rfl rfl (v_call (ok_frame_data h_y2) (.cons (ov rfl) (.b rfl) <| .nil)) ?_
 obtain ⟨q, h_q, h⟩ := bnd h
 refine D_q0 10 _ rfl (by kernel_rfl) rfl rfl (v_shlG (ov rfl) (ov rfl) h_q) ?_
 refine D_q0 11 _ rfl (by kernel_rfl) rfl rfl (v_or_ (ov rfl) (ov rfl)) ?_
 refine D_q0 12 _ rfl (by kernel_rfl) rfl rfl (v_assign (ov rfl)) ?_
 refine D_done (by kernel_rfl) ?_
 obtain rfl := rt (v := (bor .i64 y q)) h
 refine T_ret (retq ?_ (.one (.tmp rfl (Dat.view (.b rfl)))))
 rfl

theorem ok_frame_sumOf {f : Vector Int 64} {r : Int} (h : frame_sumOf f = some r) :
  CSpec Tryd.prog gl0 152 [.rp (List.map C36 f.toList) 0] (.int .i64 r) := by
 unfold frame_sumOf at h
 replace h := bnd0 h
 refine spec_of (by kernel_rfl) Tryd.func152 rfl rfl ?_
 intro w0 A
 refine T_seq (T_reg ?_)
 refine R_q _ rfl (v_assign (ov rfl)) ?_
 refine R_nil ?_
 refine T_keep (kc 0 rfl <| kn) rfl ?_
 refine T_seq (T_reg ?_)
 refine R_q _ rfl (v_assign (ov rfl)) ?_
 refine R_nil ?_
 refine T_joinG id (t1 fun n => ⟨[(3, .int .i64 n)], []⟩) h (fun h => ?_) (fun j h => ?_)
 ·
  refine T_seq (T_reg ?_)
  refine R_q _ rfl (v_move (ov rfl)) ?_
  refine R_nil ?_
  refine T_block ?_
  obtain ⟨r1, hl1, ho1⟩ := bndL h
  refine T_loopG _ (t2 fun n2 i => ⟨[(0, .rp (List.map C36 f.toList) 0), (3, .int .i64 n2), (5, .int .i64 i)], []⟩) _ hl1 (Ent.sel [] (sd 0 rfl rfl <| sd 3 rfl rfl <| sd 5 rfl rfl <| sn) (.nil) rfl rfl) (fun n1 s1 h => ?_)
  obtain ⟨n2, i⟩ := s1
  replace h := t2i h
  refine t2T ?_
  unfold frame_sumOf_L1 at h
  refine T_seq (T_reg ?_)
  refine R_q _ rfl (v_lss (ov rfl) (ov rfl)) ?_
  refine R_nil ?_
  refine T_seq ?_
  refine T_if h rfl (fun b6 h => ?_) (fun b6 h => ?_)
  ·
   refine T_skip ?_
   refine T_seq ?_
   refine T_block ?_
   refine T_keep (kc 0 rfl <| kc 3 rfl <| kc 5 rfl <| kn) rfl ?_
   refine T_seq (T_reg ?_)
   refine R_q _ rfl (v_move (ov rfl)) ?_
   refine R_q _ rfl (v_assign (ov rfl)) ?_
   refine R_nil ?_
   refine T_keep (kc 0 rfl <| kc 3 rfl <| kc 4 rfl <| kc 5 rfl <| kn) rfl ?_
   refine T_reg ?_
   refine R_q _ rfl (v_move (ov rfl)) ?_
   refine R_q _ rfl (v_move (ov rfl)) ?_
   refine R_q _ rfl (v_move (ov rfl)) ?_
   refine R_q _ rfl (v_add (ov rfl) (ov rfl) rfl) ?_
   refine R_q _ rfl (v_nilCheckR (ov rfl)) ?_
   obtain ⟨x, h_x, h⟩ := bnd h
   refine R_q _ rfl (v_ixRG (ov rfl) (ov rfl) tR38 h_x) ?_
   refine R_q _ rfl (v_loadS_r (ov rfl) tS36 (at_get (at_at (o := 0) (o' := ((i64 (i + 1)).toNat * 1)) (at_all arL) (at_v1 h_x)))) ?_
   obtain ⟨y, h_y, h⟩ := bnd h
   refine R_q _ rfl (v_call (ok_frame_data h_y) (.cons (ov rfl) (.b rfl) <| .nil)) ?_
   refine R_q _ rfl (v_xor_ (ov rfl) (ov rfl)) ?_
   refine R_q _ rfl (v_assign (ov rfl)) ?_
   refine R_nil ?_
   refine T_keep (kc 0 rfl <| kc 3 rfl <| kc 5 rfl <| kn) rfl ?_
   refine T_reg ?_
   refine R_q _ rfl (v_add (ov rfl) (ov rfl) rfl) ?_
   refine R_q _ rfl (v_move (ov rfl)) ?_
   refine R_nil ?_
   exact ⟨((bxor .i64 n2 y), (i64 (i + 1))), h, Ent.sel [] (sd 0 rfl rfl <| sd 3 rfl rfl <| sd 5 rfl rfl <| sn) (.nil) rfl rfl⟩
  ·
   refine T_exit ?_
   rw [lx h] at ho1
   replace h := ho1
   exact ⟨n2, h, Ent.sel [] (sd 3 rfl rfl <| sn) (.nil) rfl rfl⟩
 ·
  obtain ⟨n, rfl⟩ : ∃ x, x = j := ⟨_, rfl⟩
  replace h := t1i h
  refine t1T ?_
  refine T_seq (T_reg ?_)
  refine R_q _ rfl (v_move (ov rfl)) ?_
  refine R_q _ rfl (v_assign (ov rfl)) ?_
  refine R_nil ?_
  obtain rfl := rt (v := n) h
  refine T_ret (retq ?_ (.one (.tmp rfl (Dat.view (.b rfl)))))
  rfl

theorem ok_bits_OnesCount16 {x : Int} {r : Int} (h : bits_OnesCount16 x = some r) :
  CSpec Tryd.prog gl0 160 [.int .u16 x] (.int .i64 r) := by
 unfold bits_OnesCount16 at h
 replace h := bnd0 h
 refine spec_of (by kernel_rfl) Tryd.func160 rfl rfl ?_
 intro w0 A
 refine T_seq (T_reg ?_)
 refine R_q _ rfl (v_assign (ov rfl)) ?_
 refine R_nil ?_
 refine T_seq (T_draw (cw := md0) (by kernel_rfl) ?_)
 refine D_q0 0 _ rfl (by kernel_rfl) rfl rfl (v_move (ov rfl)) ?_
 obtain ⟨q, h_q, h⟩ := bnd h
 refine D_q0 1 _ rfl (by kernel_rfl) rfl rfl (v_shrG (ov rfl) (ov rfl) h_q) ?_
 obtain ⟨b, h_b, h⟩ := bnd h
 refine D_q0 2 _ rfl (by kernel_rfl) rfl rfl (v_idxStr (ov rfl) (ov rfl) tStr9 h_b) ?_
 refine D_q0 3 _ rfl (by kernel_rfl) rfl rfl (v_move (ov rfl)) ?_
 refine D_q0 4 _ rfl (by kernel_rfl) rfl rfl (v_and_ (ov rfl) (ov rfl)) ?_
 obtain ⟨b2, h_b2, h⟩ := bnd h
 refine D_q0 5 _ rfl (by kernel_rfl) rfl rfl (v_idxStr (ov rfl) (ov rfl) tStr9 h_b2) ?_
 refine D_q0 6 _ rfl (by kernel_rfl) rfl rfl (v_add (ov rfl) (ov rfl) rfl) ?_
 refine D_q0 7 _ rfl (by kernel_rfl) rfl rfl (v_conv (ov rfl) tI5 tI3 rfl) ?_
 refine D_q0 8 _ rfl (by kernel_rfl) rfl rfl (v_assign (ov rfl)) ?_
 refine D_done (by kernel_rfl) ?_
 obtain rfl := rt (v := (i64 (u8 (b + b2)))) h
 refine T_ret (retq ?_ (.one (.tmp rfl (Dat.view (.b rfl)))))
 rfl

theorem ok_frame_odd {w : Int} {r : Bool} (h : frame_odd w = some r) :
  CSpec Tryd.prog gl0 127 [.int .u16 w] (.bool r) := by
 unfold frame_odd at h
 replace h := bnd0 h
 refine spec_of (by kernel_rfl) Tryd.func127 rfl rfl ?_
 intro w0 A
 refine T_seq (T_reg ?_)
 refine R_q _ rfl (v_assign (ov rfl)) ?_
 refine R_nil ?_
 refine T_seq (T_reg ?_)
 refine R_q _ rfl (v_move (ov rfl)) ?_
 refine R_q _ rfl (v_leq (ov rfl) (ov rfl)) ?_
 refine R_q _ rfl (v_move (ov rfl)) ?_
 refine R_q _ rfl (.guarded ((decide (w ≤ 4095)) == true) rfl rfl rfl rfl fun h => v_move (ov rfl)) ?_
 obtain ⟨y, h_y, h⟩ := bnd h
 refine R_q _ rfl (.guarded ((decide (w ≤ 4095)) == true) rfl rfl rfl rfl fun h => v_call (ok_bits_OnesCount16 (gdT h_y h)) (.cons (ow rfl h) (.b rfl) <| .nil)) ?_
 obtain ⟨q, h_q, h⟩ := bnd h
 refine R_q _ rfl (.guarded ((decide (w ≤ 4095)) == true) rfl rfl rfl rfl fun h => v_remG (ow rfl h) (ov rfl) (gdT h_q h)) ?_
 refine R_q _ rfl (.guarded ((decide (w ≤ 4095)) == true) rfl rfl rfl rfl fun h => v_eql (ow rfl h) (ov rfl)) ?_
 refine R_q _ rfl (v_and (ov rfl) (fun hp => ow rfl (gT hp))) ?_
 refine R_q _ rfl (v_assign (ov rfl)) ?_
 refine R_nil ?_
 obtain rfl := rt (v := ((decide (w ≤ 4095)) && (decide (q = 1)))) h
 refine T_ret (retq ?_ (.one (.tmp rfl (Dat.view (.b rfl)))))
 rfl

theorem ok_frame_checkOf {f : Vector Int 64} {r : Int} (h : frame_checkOf f = some r) :
  CSpec Tryd.prog gl0 153 [.rp (List.map C36 f.toList) 0] (.int .i64 r) := by
 unfold frame_checkOf at h
 replace h := bnd0 h
 refine spec_of (by kernel_rfl) Tryd.func153 rfl rfl ?_
 intro w0 A
 refine T_seq (T_reg ?_)
 refine R_q _ rfl (v_assign (ov rfl)) ?_
 refine R_nil ?_
 refine T_keep (kc 0 rfl <| kn) rfl ?_
 refine T_seq (T_reg ?_)
 refine R_q _ rfl (v_assign (ov rfl)) ?_
 refine R_nil ?_
 refine T_joinG id (t1 fun n => ⟨[(3, .int .i64 n)], []⟩) h (fun h => ?_) (fun j h => ?_)
 ·
  refine T_seq (T_reg ?_)
  refine R_q _ rfl (v_move (ov rfl)) ?_
  refine R_nil ?_
  refine T_block ?_
  obtain ⟨r1, hl1, ho1⟩ := bndL h
  refine T_loopG _ (t2 fun n2 i => ⟨[(0, .rp (List.map C36 f.toList) 0), (3, .int .i64 n2), (7, .int .i64 i)], []⟩) _ hl1 (Ent.sel [] (sd 0 rfl rfl <| sd 3 rfl rfl <| sd 7 rfl rfl <| sn) (.nil) rfl rfl) (fun n1 s1 h => ?_)
  obtain ⟨n2, i⟩ := s1
  replace h := t2i h
  refine t2T ?_
  unfold frame_checkOf_L1 at h
  refine T_seq (T_reg ?_)
  refine R_q _ rfl (v_lss (ov rfl) (ov rfl)) ?_
  refine R_nil ?_
  refine T_seq ?_
  refine T_if h rfl (fun b8 h => ?_) (fun b8 h => ?_)
  ·
   refine T_skip ?_
   refine T_joinG id (t1 fun n3 => ⟨[(0, .rp (List.map C36 f.toList) 0), (3, .int .i64 n3), (7, .int .i64 i)], []⟩) h (fun h => ?_) (fun j h => ?_)
   ·
    refine T_block ?_
    refine T_keep (kc 0 rfl <| kc 3 rfl <| kc 7 rfl <| kn) rfl ?_
    refine T_seq (T_reg ?_)
    refine R_q _ rfl (v_move (ov rfl)) ?_
    refine R_q _ rfl (v_assign (ov rfl)) ?_
    refine R_nil ?_
    refine T_keep (kc 0 rfl <| kc 3 rfl <| kc 4 rfl <| kc 7 rfl <| kn) rfl ?_
    refine T_seq (T_reg ?_)
    refine R_q _ rfl (v_assign (ov rfl)) ?_
    refine R_nil ?_
    refine T_block ?_
    obtain ⟨r2, hl2, ho2⟩ := bndL h
    refine T_loopG _ (t2 fun n4 k => ⟨[(0, .rp (List.map C36 f.toList) 0), (3, .int .i64 n4), (4, .int .i64 i), (5, .int .i64 k), (7, .int .i64 i)], []⟩) _ hl2 (Ent.sel [] (sd 0 rfl rfl <| sd 3 rfl rfl <| sd 4 rfl rfl <| sd 5 rfl rfl <| sd 7 rfl rfl <| sn) (.nil) rfl rfl) (fun n2 s2 h => ?_)
    obtain ⟨n4, k⟩ := s2
    replace h := t2i h
    refine t2T ?_
    unfold frame_checkOf_L2 at h
    refine T_seq ?_
    refine T_seq (T_reg ?_)
    refine R_q _ rfl (v_move (ov rfl)) ?_
    refine R_q _ rfl (v_geq (ov rfl) (ov rfl)) ?_
    refine R_nil ?_
    refine T_keep (kc 0 rfl <| kc 3 rfl <| kc 4 rfl <| kc 5 rfl <| kc 7 rfl <| kc 11 rfl <| kn) rfl ?_
    refine T_if h rfl (fun b11 h => ?_) (fun b11 h => ?_)
    ·
     refine T_skip ?_
     refine T_seq ?_
     refine T_block ?_
     refine T_keep (kc 0 rfl <| kc 3 rfl <| kc 4 rfl <| kc 5 rfl <| kc 7 rfl <| kn) rfl ?_
     refine T_seq (T_reg ?_)
     refine R_q _ rfl (v_move (ov rfl)) ?_
     refine R_q _ rfl (v_and_ (ov rfl) (ov rfl)) ?_
     refine R_q _ rfl (v_neq (ov rfl) (ov rfl)) ?_
     refine R_q _ rfl (v_assign (ov rfl)) ?_
     refine R_nil ?_
     refine T_keep (kc 0 rfl <| kc 3 rfl <| kc 4 rfl <| kc 5 rfl <| kc 6 rfl <| kc 7 rfl <| kn) rfl ?_
     refine T_seq (T_reg ?_)
     refine R_q _ rfl (v_move (ov rfl)) ?_
     obtain ⟨q, h_q, h⟩ := bnd h
     refine R_q _ rfl (v_shlG (ov rfl) (ov rfl) h_q) ?_
     refine R_q _ rfl (v_and_ (ov rfl) (ov rfl)) ?_
     refine R_q _ rfl (v_assign (ov rfl)) ?_
     refine R_nil ?_
     refine T_keep (kc 0 rfl <| kc 3 rfl <| kc 4 rfl <| kc 5 rfl <| kc 6 rfl <| kc 7 rfl <| kn) rfl ?_
     refine T_seq (T_reg ?_)
     refine R_q _ rfl (v_move (ov rfl)) ?_
     refine R_q _ rfl (v_move (ov rfl)) ?_
     refine R_q _ rfl (v_move (ov rfl)) ?_
     refine R_q _ rfl (v_nilCheckR (ov rfl)) ?_
     obtain ⟨x, h_x, h⟩ := bnd h
     refine R_q _ rfl (v_ixRG (ov rfl) (ov rfl) tR38 h_x) ?_
     refine R_q _ rfl (v_loadS_r (ov rfl) tS36 (at_get (at_at (o := 0) (o' := (i.toNat * 1)) (at_all arL) (at_v1 h_x)))) ?_
     refine R_q _ rfl (v_move (ov rfl)) ?_
     obtain ⟨q2, h_q2, h⟩ := bnd h
     refine R_q _ rfl (v_shrG (ov rfl) (ov rfl) h_q2) ?_
     refine R_q _ rfl (v_and_ (ov rfl) (ov rfl)) ?_
     refine R_q _ rfl (v_eql (ov rfl) (ov rfl)) ?_
     refine R_q _ rfl (tBool_eq .neq (by simp) (ov rfl) (ov rfl) tB4) ?_
     refine R_nil ?_
     refine T_keep (kc 0 rfl <| kc 3 rfl <| kc 4 rfl <| kc 5 rfl <| kc 7 rfl <| kc 30 rfl <| kn) rfl ?_
     refine T_if h rfl (fun b30 h => ?_) (fun b30 h => ?_)
     ·
      refine T_keep (kc 0 rfl <| kc 3 rfl <| kc 4 rfl <| kc 5 rfl <| kc 7 rfl <| kn) rfl ?_
      refine T_reg ?_
      refine R_q _ rfl (v_move (ov rfl)) ?_
      refine R_q _ rfl (v_xor_ (ov rfl) (ov rfl)) ?_
      refine R_q _ rfl (v_assign (ov rfl)) ?_
      refine R_nil ?_
      refine T_keep (kc 0 rfl <| kc 3 rfl <| kc 4 rfl <| kc 5 rfl <| kc 7 rfl <| kn) rfl ?_
      refine T_reg ?_
      refine R_q _ rfl (v_move (ov rfl)) ?_
      refine R_q _ rfl (v_sub (ov rfl) (ov rfl) rfl) ?_
      refine R_q _ rfl (v_assign (ov rfl)) ?_
      refine R_nil ?_
      exact ⟨((bxor .i64 (band .i64 q 4194303) 2097167), (i64 (k - 1))), h, Ent.sel [] (sd 0 rfl rfl <| sd 3 rfl rfl <| sd 4 rfl rfl <| sd 5 rfl rfl <| sd 7 rfl rfl <| sn) (.nil) rfl rfl⟩
     ·
      refine T_skip ?_
      refine T_keep (kc 0 rfl <| kc 3 rfl <| kc 4 rfl <| kc 5 rfl <| kc 7 rfl <| kn) rfl ?_
      refine T_reg ?_
      refine R_q _ rfl (v_move (ov rfl)) ?_
      refine R_q _ rfl (v_sub (ov rfl) (ov rfl) rfl) ?_
      refine R_q _ rfl (v_assign (ov rfl)) ?_
      refine R_nil ?_
      exact ⟨((band .i64 q 4194303), (i64 (k - 1))), h, Ent.sel [] (sd 0 rfl rfl <| sd 3 rfl rfl <| sd 4 rfl rfl <| sd 5 rfl rfl <| sd 7 rfl rfl <| sn) (.nil) rfl rfl⟩
    ·
     refine T_exit ?_
     rw [lx h] at ho2
     replace h := ho2
     exact ⟨n4, h, Ent.sel [] (sd 0 rfl rfl <| sd 3 rfl rfl <| sd 7 rfl rfl <| sn) (.nil) rfl rfl⟩
   ·
    obtain ⟨n3, rfl⟩ : ∃ x, x = j := ⟨_, rfl⟩
    replace h := t1i h
    refine t1T ?_
    refine T_reg ?_
    refine R_q _ rfl (v_add (ov rfl) (ov rfl) rfl) ?_
    refine R_q _ rfl (v_move (ov rfl)) ?_
    refine R_nil ?_
    exact ⟨(n3, (i64 (i + 1))), h, Ent.sel [] (sd 0 rfl rfl <| sd 3 rfl rfl <| sd 7 rfl rfl <| sn) (.nil) rfl rfl⟩
  ·
   refine T_exit ?_
   rw [lx h] at ho1
   replace h := ho1
   exact ⟨n2, h, Ent.sel [] (sd 3 rfl rfl <| sn) (.nil) rfl rfl⟩
 ·
  obtain ⟨n, rfl⟩ : ∃ x, x = j := ⟨_, rfl⟩
  replace h := t1i h
  refine t1T ?_
  refine T_seq (T_reg ?_)
  refine R_q _ rfl (v_move (ov rfl)) ?_
  refine R_q _ rfl (v_assign (ov rfl)) ?_
  refine R_nil ?_
  obtain rfl := rt (v := n) h
  refine T_ret (retq ?_ (.one (.tmp rfl (Dat.view (.b rfl)))))
  rfl

theorem ok_frame_sound {f : Vector Int 64} {r : Bool} (h : frame_sound f = some r) :
  CSpec Tryd.prog gl0 121 [.rp (List.map C36 f.toList) 0] (.bool r) := by
 unfold frame_sound at h
 replace h := bnd0 h
 refine spec_of (by kernel_rfl) Tryd.func121 rfl rfl ?_
 intro w0 A
 refine T_seq (T_reg ?_)
 refine R_q _ rfl (v_assign (ov rfl)) ?_
 refine R_nil ?_
 refine T_seq ?_
 refine T_keep (kc 0 rfl <| kn) rfl ?_
 refine T_seq (T_draw (cw := md0) (by kernel_rfl) ?_)
 refine D_q0 0 _ rfl (by kernel_rfl) rfl rfl (v_move (ov rfl)) ?_
 obtain ⟨y, h_y, h⟩ := bnd h
 refine D_q0 1 _ rfl (by kernel_rfl) rfl rfl (v_call (ok_frame_wide h_y) (.cons (ov rfl) (.b rfl) <| .nil)) ?_
 refine D_q0 2 _ rfl (by kernel_rfl) rfl rfl (v_move (ov rfl)) ?_
 refine D_q0 3 _ rfl (by kernel_rfl) rfl rfl (.guarded (y == false) rfl rfl rfl rfl fun h => v_move (ov rfl)) ?_
 refine D_q0 4 _ rfl (by kernel_rfl) rfl rfl (.guarded (y == false) rfl rfl rfl rfl fun h => v_nilCheckR (ow rfl h)) ?_
 obtain ⟨x, h_x, h⟩ := bnd h
 refine D_q0 5 _ rfl (by kernel_rfl) rfl rfl (.guarded (y == false) rfl rfl rfl rfl fun h => v_ixRG (ow rfl h) (ov rfl) tR38 (gdT h_x h)) ?_
 refine D_q0 6 _ rfl (by kernel_rfl) rfl rfl (.guarded (y == false) rfl rfl rfl rfl fun h => v_loadS_r (ow rfl h) tS36 (at_get (at_at (o := 0) (o' := ((Int.toNat 0) * 1)) (at_all arL) (at_v1 (gdT h_x h))))) ?_
 refine D_q0 7 _ rfl (by kernel_rfl) rfl rfl (.guarded (y == false) rfl rfl rfl rfl fun h => v_move (ov rfl)) ?_
 obtain ⟨y2, h_y2, h⟩ := bnd h
 refine D_q0 8 _ rfl (by kernel_rfl) rfl rfl (.guarded (y == false) rfl rfl rfl rfl fun h => v_call (ok_frame_numberOf (gdT h_y2 h)) (.cons (ow rfl h) (.b rfl) <| .nil)) ?_
 obtain ⟨q, h_q, h⟩ := bnd h
 refine D_q0 9 _ rfl (by kernel_rfl) rfl rfl (.guarded (y == false) rfl rfl rfl rfl fun h => v_remG (ow rfl h) (ov rfl) (gdT h_q h)) ?_
 obtain ⟨x2, h_x2, h⟩ := bnd h
 refine D_q0 10 _ rfl (by kernel_rfl) rfl rfl (.guarded (y == false) rfl rfl rfl rfl fun h => v_ixRG (og (v := gv_frame_syncs) (k := .u16) (f := C36) (by simp [gl0]) (fun _ => rfl)) (ow rfl h) tR202 (gdT h_x2 h)) ?_
 refine D_q0 11 _ rfl (by kernel_rfl) rfl rfl (.guarded (y == false) rfl rfl rfl rfl fun h => v_loadS_r (ow rfl h) tS36 (at_get (at_at (o := 0) (o' := (q.toNat * 1)) (at_all arL) (at_v1 (gdT h_x2 h))))) ?_
 refine D_q0 12 _ rfl (by kernel_rfl) rfl rfl (.guarded (y == false) rfl rfl rfl rfl fun h => v_neq (ow rfl h) (ow rfl h)) ?_
 refine D_q0 13 _ rfl (by kernel_rfl) rfl rfl (v_or (ov rfl) (fun hp => ow rfl (gF hp))) ?_
 refine D_q0 14 _ rfl (by kernel_rfl) rfl rfl (v_move (ov rfl)) ?_
 refine D_q0 15 _ rfl (by kernel_rfl) rfl rfl (.guarded ((y || (!decide (x = x2))) == false) rfl rfl rfl rfl fun h => v_move (ov rfl)) ?_
 refine D_q0 16 _ rfl (by kernel_rfl) rfl rfl (.guarded ((y || (!decide (x = x2))) == false) rfl rfl rfl rfl fun h => v_nilCheckR (ow rfl h)) ?_
 obtain ⟨x3, h_x3, h⟩ := bnd h
 refine D_q0 17 _ rfl (by kernel_rfl) rfl rfl (.guarded ((y || (!decide (x = x2))) == false) rfl rfl rfl rfl fun h => v_ixRG (ow rfl h) (ov rfl) tR38 (gdT h_x3 h)) ?_
 refine D_q0 18 _ rfl (by kernel_rfl) rfl rfl (.guarded ((y || (!decide (x = x2))) == false) rfl rfl rfl rfl fun h => v_loadS_r (ow rfl h) tS36 (at_get (at_at (o := 0) (o' := ((Int.toNat 61) * 1)) (at_all arL) (at_v1 (gdT h_x3 h))))) ?_
 obtain ⟨y3, h_y3, h⟩ := bnd h
 refine D_q0 19 _ rfl (by kernel_rfl) rfl rfl (.guarded ((y || (!decide (x = x2))) == false) rfl rfl rfl rfl fun h => v_call (ok_frame_data (gdT h_y3 h)) (.cons (ow rfl h) (.b rfl) <| .nil)) ?_
 refine D_q0 20 _ rfl (by kernel_rfl) rfl rfl (.guarded ((y || (!decide (x = x2))) == false) rfl rfl rfl rfl fun h => v_move (ov rfl)) ?_
 obtain ⟨y4, h_y4, h⟩ := bnd h
 refine D_q0 21 _ rfl (by kernel_rfl) rfl rfl (.guarded ((y || (!decide (x = x2))) == false) rfl rfl rfl rfl fun h => v_call (ok_frame_sumOf (gdT h_y4 h)) (.cons (ow rfl h) (.b rfl) <| .nil)) ?_
 refine D_q0 22 _ rfl (by kernel_rfl) rfl rfl (.guarded ((y || (!decide (x = x2))) == false) rfl rfl rfl rfl fun h => v_neq (ow rfl h) (ow rfl h)) ?_
 refine D_q0 23 _ rfl (by kernel_rfl) rfl rfl (v_or (ov rfl) (fun hp => ow rfl (gF hp))) ?_
 refine D_done (by kernel_rfl) ?_
 refine T_keep (kc 0 rfl <| kc 27 rfl <| kn) rfl ?_
 refine T_if h rfl (fun b27 h => ?_) (fun b27 h => ?_)
 ·
  refine T_keep (kn) rfl ?_
  refine T_seq (T_reg ?_)
  refine R_q _ rfl (v_assign (ov rfl)) ?_
  refine R_nil ?_
  obtain rfl := rt (v := false) h
  refine T_ret (retq ?_ (.one (.tmp rfl (Dat.view (.b rfl)))))
  rfl
 ·
  refine T_skip ?_
  refine T_joinG (fun j => (.inr j)) (t0 ⟨[(0, .rp (List.map C36 f.toList) 0)], []⟩) h (fun h => ?_) (fun j h => ?_)
  ·
   refine T_keep (kc 0 rfl <| kn) rfl ?_
   refine T_seq (T_reg ?_)
   refine R_q _ rfl (v_assign (ov rfl)) ?_
   refine R_nil ?_
   refine T_block ?_
   obtain ⟨r1, hl1, ho1⟩ := bndL h
   refine T_loopG _ (t1 fun i => ⟨[(0, .rp (List.map C36 f.toList) 0), (3, .int .i64 i)], []⟩) _ hl1 (Ent.sel [] (sd 0 rfl rfl <| sd 3 rfl rfl <| sn) (.nil) rfl rfl) (fun n1 s1 h => ?_)
   obtain ⟨i, rfl⟩ : ∃ x, x = s1 := ⟨_, rfl⟩
   replace h := t1i h
   refine t1T ?_
   unfold frame_sound_L1 at h
   refine T_seq ?_
   refine T_seq (T_reg ?_)
   refine R_q _ rfl (v_move (ov rfl)) ?_
   refine R_q _ rfl (v_lss (ov rfl) (ov rfl)) ?_
   refine R_nil ?_
   refine T_keep (kc 0 rfl <| kc 3 rfl <| kc 29 rfl <| kn) rfl ?_
   refine T_if h rfl (fun b29 h => ?_) (fun b29 h => ?_)
   ·
    refine T_skip ?_
    refine T_seq ?_
    refine T_block ?_
    refine T_keep (kc 0 rfl <| kc 3 rfl <| kn) rfl ?_
    refine T_seq (T_reg ?_)
    refine R_q _ rfl (v_move (ov rfl)) ?_
    refine R_q _ rfl (v_move (ov rfl)) ?_
    refine R_q _ rfl (v_nilCheckR (ov rfl)) ?_
    obtain ⟨x4, h_x4, h⟩ := bnd h
    refine R_q _ rfl (v_ixRG (ov rfl) (ov rfl) tR38 h_x4) ?_
    refine R_q _ rfl (v_loadS_r (ov rfl) tS36 (at_get (at_at (o := 0) (o' := (i.toNat * 1)) (at_all arL) (at_v1 h_x4)))) ?_
    obtain ⟨y5, h_y5, h⟩ := bnd h
    refine R_q _ rfl (v_call (ok_frame_odd h_y5) (.cons (ov rfl) (.b rfl) <| .nil)) ?_
    refine R_q _ rfl (v_not (ov rfl)) ?_
    refine R_nil ?_
    refine T_keep (kc 0 rfl <| kc 3 rfl <| kc 38 rfl <| kn) rfl ?_
    refine T_if h rfl (fun b38 h => ?_) (fun b38 h => ?_)
    ·
     refine T_keep (kn) rfl ?_
     refine T_seq (T_reg ?_)
     refine R_q _ rfl (v_assign (ov rfl)) ?_
     refine R_nil ?_
     rw [lx h] at ho1
     replace h := ho1
     obtain rfl := rt (v := false) h
     refine T_ret (retq ?_ (.one (.tmp rfl (Dat.view (.b rfl)))))
     rfl
    ·
     refine T_skip ?_
     refine T_keep (kc 0 rfl <| kc 3 rfl <| kn) rfl ?_
     refine T_reg ?_
     refine R_q _ rfl (v_move (ov rfl)) ?_
     refine R_q _ rfl (v_add (ov rfl) (ov rfl) rfl) ?_
     refine R_q _ rfl (v_assign (ov rfl)) ?_
     refine R_nil ?_
     exact ⟨(i64 (i + 1)), h, Ent.sel [] (sd 0 rfl rfl <| sd 3 rfl rfl <| sn) (.nil) rfl rfl⟩
   ·
    refine T_exit ?_
    rw [lx h] at ho1
    replace h := ho1
    exact ⟨(), h, Ent.sel [] (sd 0 rfl rfl <| sn) (.nil) rfl rfl⟩
  ·
   replace h := elr h
   cases j
   replace h := t0i h
   refine t0T ?_
   refine T_seq (T_draw (cw := md0) (by kernel_rfl) ?_)
   refine D_q0 0 _ rfl (by kernel_rfl) rfl rfl (v_move (ov rfl)) ?_
   refine D_q0 1 _ rfl (by kernel_rfl) rfl rfl (v_nilCheckR (ov rfl)) ?_
   obtain ⟨x5, h_x5, h⟩ := bnd h
   refine D_q0 2 _ rfl (by kernel_rfl) rfl rfl (v_ixRG (ov rfl) (ov rfl) tR38 h_x5) ?_
   refine D_q0 3 _ rfl (by kernel_rfl) rfl rfl (v_loadS_r (ov rfl) tS36 (at_get (at_at (o := 0) (o' := ((Int.toNat 62) * 1)) (at_all arL) (at_v1 h_x5)))) ?_
   obtain ⟨y6, h_y6, h⟩ := bnd h
   refine D_q0 4 _ rfl (by kernel_rfl) rfl rfl (v_call (ok_frame_data h_y6) (.cons (ov rfl) (.b rfl) <| .nil)) ?_
   obtain ⟨q2, h_q2, h⟩ := bnd h
   refine D_q0 5 _ rfl (by kernel_rfl) rfl rfl (v_shlG (ov rfl) (ov rfl) h_q2) ?_
   refine D_q0 6 _ rfl (by kernel_rfl) rfl rfl (v_move (ov rfl)) ?_
   refine D_q0 7 _ rfl (by kernel_rfl) rfl rfl (v_nilCheckR (ov rfl)) ?_
   obtain ⟨x6, h_x6, h⟩ := bnd h
   refine D_q0 8 _ rfl (by kernel_rfl) rfl rfl (v_ixRG (ov rfl) (ov rfl) tR38 h_x6) ?_
   refine D_q0 9 _ rfl (by kernel_rfl) rfl rfl (v_loadS_r (ov rfl) tS36 (at_get (at_at (o := 0) (o' := ((Int.toNat 63) * 1)) (at_all arL) (at_v1 h_x6)))) ?_
   obtain ⟨y7, h_y7, h⟩ := bnd h
   refine D_q0 10 _ rfl (by kernel_rfl) rfl rfl (v_call (ok_frame_data h_y7) (.cons (ov rfl) (.b rfl) <| .nil)) ?_
   refine D_q0 11 _ rfl (by kernel_rfl) rfl rfl (v_or_ (ov rfl) (ov rfl)) ?_
   refine D_q0 12 _ rfl (by kernel_rfl) rfl rfl (v_move (ov rfl)) ?_
   obtain ⟨y8, h_y8, h⟩ := bnd h
   refine D_q0 13 _ rfl (by kernel_rfl) rfl rfl (v_call (ok_frame_checkOf h_y8) (.cons (ov rfl) (.b rfl) <| .nil)) ?_
   refine D_q0 14 _ rfl (by kernel_rfl) rfl rfl (v_eql (ov rfl) (ov rfl)) ?_
   refine D_q0 15 _ rfl (by kernel_rfl) rfl rfl (v_assign (ov rfl)) ?_
   refine D_done (by kernel_rfl) ?_
   obtain rfl := rt (v := (decide ((bor .i64 q2 y7) = y8))) h
   refine T_ret (retq ?_ (.one (.tmp rfl (Dat.view (.b rfl)))))
   rfl

theorem ok_frame_Sound {f : Vector Int 64} {r : Bool} (h : frame_Sound f = some r) :
  CSpec Tryd.prog gl0 122 [.agg (List.map C36 f.toList)] (.bool r) := by
 unfold frame_Sound at h
 replace h := bnd0 h
 refine spec_of (by kernel_rfl) Tryd.func122 rfl rfl ?_
 intro w0 A
 refine T_seq (T_reg ?_)
 refine R_q _ rfl (v_boxD (cva (ov rfl)) arL tZ_38 (arD fun _ => rfl)) ?_
 refine R_q _ rfl (v_assign (ov rfl)) ?_
 refine R_nil ?_
 refine T_keep (kc 1 rfl <| kc 2 rfl <| kn) rfl ?_
 refine T_seq (T_reg ?_)
 obtain ⟨y, h_y, h⟩ := bnd h
 refine R_q _ rfl (v_call (ok_frame_sound h_y) (.cons (ov rfl) (.b rfl) <| .nil)) ?_
 refine R_q _ rfl (v_assign (ov rfl)) ?_
 refine R_nil ?_
 obtain rfl := rt (v := y) h
 refine T_ret (retq ?_ (.one (.tmp rfl (Dat.view (.b rfl)))))
 rfl

theorem it_scan {h_ : List Int} {out r : List api_Found} {l Bx : Nat} {rec : Loop} (hY : ∀ (x : api_Found) (xs ys : List api_Found), app xs [x] = some ys → YSpec Tryd.prog gl0 l rec Bx [.int .i64 x.At, .agg (List.map C36 x.Frame.toList)] [some ⟨137, [[.own 1 xs.length]]⟩, some ⟨141, List.map R141 xs⟩] [some ⟨137, [[.own 1 ys.length]]⟩, some ⟨141, List.map R141 ys⟩]) (h : salvage_scan_it h_ out = some r) :
  ISpec Tryd.prog gl0 172 l rec Bx [.lit (.func (.yield l) #[] #[]), .rp [.sl 5 (List.map R5 h_)] 0] [some ⟨137, [[.own 1 out.length]]⟩, some ⟨141, List.map R141 out⟩] [some ⟨137, [[.own 1 r.length]]⟩, some ⟨141, List.map R141 r⟩] := by
 unfold salvage_scan_it at h
 replace h := bnd0 h
 refine i_of Tryd.func172 rfl rfl rfl rfl ?_
 intro w0 A W φ0 hrec hlW hB1 hB2 hB3
 refine T_seq (T_reg ?_)
 refine R_q _ rfl (v_assign (ov rfl)) ?_
 refine R_nil ?_
 refine T_block ?_
 obtain ⟨r1, hl1, ho1⟩ := bndL h
 refine T_loopG _ (t2 fun o at_ => ⟨[(0, .lit (.func (.yield l) #[] #[])), (1, .rp [.sl 5 (List.map R5 h_)] 0), (3, .int .i64 at_)], [some ⟨137, [[.own 1 o.length]]⟩, some ⟨141, List.map R141 o⟩]⟩) _ hl1 (Ent.sel [some 0, some 1] (sd 0 rfl rfl <| sd 1 rfl rfl <| sd 3 rfl rfl <| sn) (.cons rfl (ro1 (by exact tZ_137.symm) (rlc (.own _ rfl) <| rln)) <| .cons rfl (roM D141) <| .nil) rfl rfl) (fun n1 s1 h => ?_)
 obtain ⟨o, at_⟩ := s1
 replace h := t2i h
 refine t2T ?_
 unfold salvage_scan_it_L1 at h
 refine T_seq ?_
 refine T_seq (T_reg ?_)
 refine R_q _ rfl (v_move (ov rfl)) ?_
 refine R_q _ rfl (v_add (ov rfl) (ov rfl) rfl) ?_
 refine R_q _ rfl (v_loadS_r (ov rfl) tS33 rfl) ?_
 refine R_q _ rfl (v_len (slv_sl (ov rfl) tZ_5) tL33 (len_map _ _)) ?_
 refine R_q _ rfl (v_leq (ov rfl) (ov rfl)) ?_
 refine R_nil ?_
 refine T_keep (kc 0 rfl <| kc 1 rfl <| kc 3 rfl <| kc 9 rfl <| kn) rfl ?_
 refine T_if h rfl (fun b9 h => ?_) (fun b9 h => ?_)
 ·
  refine T_skip ?_
  refine T_joinG (fun j => (.inr j)) (t1 fun o2 => ⟨[(0, .lit (.func (.yield l) #[] #[])), (1, .rp [.sl 5 (List.map R5 h_)] 0), (3, .int .i64 at_)], [some ⟨137, [[.own 1 o2.length]]⟩, some ⟨141, List.map R141 o2⟩]⟩) h (fun h => ?_) (fun j h => ?_)
  ·
   refine T_block ?_
   refine T_seq ?_
   refine T_keep (kc 0 rfl <| kc 1 rfl <| kc 3 rfl <| kn) rfl ?_
   refine T_seq (T_reg ?_)
   refine R_q _ rfl (v_loadS_r (ov rfl) tS33 rfl) ?_
   refine R_q _ rfl (v_move (ov rfl)) ?_
   refine R_q _ rfl (v_move (ov rfl)) ?_
   refine R_q _ rfl (v_add (ov rfl) (ov rfl) rfl) ?_
   obtain ⟨l, h_l, h⟩ := bnd h
   refine R_q _ rfl (v_sliceG (ov rfl) tL33 (oi (ov rfl)) (oi (ov rfl)) h_l) ?_
   obtain ⟨y, h_y, h⟩ := bnd h
   refine R_q _ rfl (v_call (ok_salvage_wordAt h_y) (.cons (ov rfl) (.b rfl) <| .nil)) ?_
   obtain ⟨y2, h_y2, h⟩ := bnd h
   refine R_q _ rfl (v_call (ok_salvage_isSync h_y2) (.cons (ov rfl) (.b rfl) <| .nil)) ?_
   refine R_q _ rfl (v_not (ov rfl)) ?_
   refine R_nil ?_
   refine T_keep (kc 0 rfl <| kc 1 rfl <| kc 3 rfl <| kc 19 rfl <| kn) rfl ?_
   refine T_if h rfl (fun b19 h => ?_) (fun b19 h => ?_)
   ·
    refine T_exit ?_
    exact ⟨o, h, Ent.sel [some 0, some 1] (sd 0 rfl rfl <| sd 1 rfl rfl <| sd 3 rfl rfl <| sn) (.cons rfl (ro1 (by exact tZ_137.symm) (rlc (.own _ rfl) <| rln)) <| .cons rfl (roM D141) <| .nil) rfl rfl⟩
   ·
    refine T_skip ?_
    refine T_keep (kc 0 rfl <| kc 1 rfl <| kc 3 rfl <| kn) rfl ?_
    refine T_seq (T_reg ?_)
    refine R_q _ rfl (v_loadS_r (ov rfl) tS33 rfl) ?_
    refine R_q _ rfl (v_move (ov rfl)) ?_
    refine R_q _ rfl (v_move (ov rfl)) ?_
    refine R_q _ rfl (v_add (ov rfl) (ov rfl) rfl) ?_
    obtain ⟨l2, h_l2, h⟩ := bnd h
    refine R_q _ rfl (v_sliceG (ov rfl) tL33 (oi (ov rfl)) (oi (ov rfl)) h_l2) ?_
    obtain ⟨v, h_v, h⟩ := bnd h
    refine R_q _ rfl (v_sapG (f := C5) (ov rfl) tR225 tZ_5 rfl h_v) ?_
    refine R_q _ rfl (v_loadA_r (ov rfl) tA225 (at_sub (at_all arL)) arL) ?_
    obtain ⟨y3, h_y3, h⟩ := bnd h
    refine R_q _ rfl (v_call (ok_salvage_frameIn h_y3) (.cons (ov rfl) (.aggB (arD fun _ => rfl)) <| .nil)) ?_
    refine R_w _ _ rfl (w_alloc (row := (List.map C36 (Vector.replicate 64 0).toList)) 2 rfl tZ38 rfl tZ_38) ?_
    refine R_w _ _ rfl (w_store (ov rfl) (ov rfl) (cells_agg tA38 arL) rfl rfl rfl (put_le (at_all arL) arL) (cell1_all (arC fun _ => rfl)) (put_all (Eq.trans arL (Eq.symm arL)))) ?_
    refine R_nil ?_
    refine T_keep (kc 0 rfl <| kc 1 rfl <| kc 3 rfl <| kc 4 rfl <| kn) rfl ?_
    refine T_seq (T_in (TI_reg ?_))
    refine RI_q _ rfl rfl (v_loadA (ov rfl) rfl rfl rfl tA38 (at_sub (at_all arL)) arL (hns := (nsM fun _ => rfl))) ?_
    obtain ⟨y4, h_y4, h⟩ := bnd h
    refine RI_q _ rfl rfl (v_call (ok_frame_Sound h_y4) (.cons (ov rfl) (.aggB (arD fun _ => rfl)) <| .nil)) ?_
    refine RI_q _ rfl rfl (v_move (ov rfl)) ?_
    rcases ifR h with ⟨hg, h⟩ | ⟨hg, h⟩
    ·
     refine RI_lit (d := 30) (b' := true) rfl (beqT hg) ?_
     refine RI_qG _ rfl rfl rfl rfl rfl (v_move (ov rfl)) ?_
     refine RI_qG _ rfl rfl rfl rfl rfl (v_move (ov rfl)) ?_
     refine RI_qG _ rfl rfl rfl rfl rfl (v_loadA (ov rfl) rfl rfl rfl tA38 (at_sub (at_all arL)) arL (hns := (nsM fun _ => rfl))) ?_
     obtain ⟨out2, h_out2, h⟩ := bnd h
     refine RI_yield rfl [0, 1] (.cons (ov rfl) (.dat rfl) <| .cons (ov rfl) (rAgg (rld (arD fun _ => rfl))) <| .nil) (hY (api_Found.mk at_ y3) _ _ h_out2) rfl hrec hlW (by exact Nat.zero_lt_succ _) hB1 hB2 hB3 rfl rfl (.cons rfl (ro1 (by exact tZ_137.symm) (rlc (.own _ rfl) rln)) <| .cons rfl (roM D141) <| .nil) rfl (.lent 0 (.inl rfl) rfl (ro1 (by exact tZ_137.symm) (rlc (.own _ (.inl rfl)) rln)) <| .lent 1 (.inl rfl) rfl (roM D141) <| .keep rfl rfl <| .nil) rfl rfl (fun _ _ _ hc => wanted_lit rfl rfl rfl hc) rfl ?_
     refine RI_qG _ rfl rfl rfl rfl rfl (v_not (ov rfl)) ?_
     refine RI_q _ rfl rfl (v_pickT (ov rfl) (ov rfl)) ?_
     refine RI_nil ?_
     refine T_keep (kc 0 rfl <| kc 1 rfl <| kc 3 rfl <| kc 36 rfl <| kn) rfl ?_
     refine T_if h rfl (fun b36 h => ?_) (fun b36 h => ?_)
     ·
      rw [lx h] at ho1
      replace h := ho1
      obtain rfl := rt (v := out2) h
      refine T_ret ?_
      exact retg [some 0, some 1] rfl .nil (.cons rfl (ro1 (by exact tZ_137.symm) (rlc (.own _ rfl) rln)) <| .cons rfl (roM D141) <| .nil) rfl rfl (rTup (rld rfl))
     ·
      refine T_skip ?_
      exact ⟨out2, h, Ent.sel [some 0, some 1] (sd 0 rfl rfl <| sd 1 rfl rfl <| sd 3 rfl rfl <| sn) (.cons rfl (ro1 (by exact tZ_137.symm) (rlc (.own _ rfl) <| rln)) <| .cons rfl (roM D141) <| .nil) rfl rfl⟩
    ·
     refine RI_lit (d := 30) (b' := false) rfl (beqF hg) ?_
     refine RI_skipG rfl rfl rfl rfl rfl ?_
     refine RI_skipG rfl rfl rfl rfl rfl ?_
     refine RI_skipG rfl rfl rfl rfl rfl ?_
     refine RI_skipG rfl rfl rfl rfl rfl ?_
     refine RI_skipG rfl rfl rfl rfl rfl ?_
     refine RI_q _ rfl rfl (v_pickF (ov rfl) (ov rfl)) ?_
     refine RI_nil ?_
     refine T_keep (kc 0 rfl <| kc 1 rfl <| kc 3 rfl <| kc 36 rfl <| kn) rfl ?_
     refine T_if h rfl (fun b36 h => ?_) (fun b36 h => ?_)
     ·
      exact Bool.noConfusion b36
     ·
      refine T_skip ?_
      exact ⟨o, h, Ent.sel [some 0, some 1] (sd 0 rfl rfl <| sd 1 rfl rfl <| sd 3 rfl rfl <| sn) (.cons rfl (ro1 (by exact tZ_137.symm) (rlc (.own _ rfl) <| rln)) <| .cons rfl (roM D141) <| .nil) rfl rfl⟩
  ·
   replace h := elr h
   obtain ⟨o2, rfl⟩ : ∃ x, x = j := ⟨_, rfl⟩
   replace h := t1i h
   refine t1T ?_
   refine T_reg ?_
   refine R_q _ rfl (v_move (ov rfl)) ?_
   refine R_q _ rfl (v_add (ov rfl) (ov rfl) rfl) ?_
   refine R_q _ rfl (v_assign (ov rfl)) ?_
   refine R_nil ?_
   exact ⟨(o2, (i64 (at_ + 1))), h, Ent.sel [some 0, some 1] (sd 0 rfl rfl <| sd 1 rfl rfl <| sd 3 rfl rfl <| sn) (.cons rfl (ro1 (by exact tZ_137.symm) (rlc (.own _ rfl) <| rln)) <| .cons rfl (roM D141) <| .nil) rfl rfl⟩
 ·
  refine T_exit ?_
  rw [lx h] at ho1
  replace h := ho1
  obtain rfl := rt (v := o) h
  exact retgn [some 0, some 1] rfl .nil (.cons rfl (ro1 (by exact tZ_137.symm) (rlc (.own _ rfl) rln)) <| .cons rfl (roM D141) <| .nil) rfl rfl (rTup (rld rfl))

theorem ok_sounds (h_ : List Int) : CSpec Tryd.prog gl0 159 [.sl 5 (List.map R5 h_)] (.fn 172 [.rp [.sl 5 (List.map R5 h_)] 0]) := by
 refine spec_of (by kernel_rfl) Tryd.func159 rfl rfl ?_
 intro w0 A
 refine T_seq (T_reg ?_)
 refine R_q _ rfl (v_boxD (cvs (ov rfl) (cell1_b rfl)) rfl tZ_33 rfl) ?_
 refine R_q _ rfl (v_assign (ov rfl)) ?_
 refine R_nil ?_
 refine T_seq (T_reg ?_)
 refine R_q _ rfl (v_makeFunc (.cons (ov rfl) <| .nil)) ?_
 refine R_q _ rfl (v_assign (ov rfl)) ?_
 refine R_nil ?_
 refine T_ret (retq rfl (.one (.tmp rfl (Dat.view (.fnC (.cons (.b rfl) <| .nil))))))

theorem ok_salvage_scan {h_ : List Int} {r : List api_Found} (h : salvage_scan h_ = some r) :
  CSpec Tryd.prog gl0 126 [.sl 5 (List.map R5 h_)] (.sl 141 (List.map R141 r)) := by
 unfold salvage_scan at h
 refine cspec_range (by kernel_rfl) Tryd.func126 rfl rfl ?_
 intro w0 A
 refine PI_seqT (TI_reg ?_)
 refine RI_q _ rfl rfl (v_assign (ov rfl)) ?_
 refine RI_nil ?_
 refine PI_seqT (TI_reg ?_)
 refine RI_w _ _ rfl rfl (w_alloc (row := [_]) 0 rfl tZ137 rfl tZ_137) ?_
 refine RI_nil ?_
 refine PI_seq (PI_seqT (TI_reg ?_))
 refine RI_q _ rfl rfl (v_move (ov rfl)) ?_
 refine RI_q _ rfl rfl (v_call (ok_sounds h_) (.cons (ov rfl) (.b rfl) <| .nil)) ?_
 refine RI_ent (Ent.sel [some 0, none] (sd 0 rfl rfl <| sd 2 rfl rfl <| sr 3 rfl (.ptr (r' := 0) _ _ _ rfl) <| sd 6 rfl rfl <| sr 7 rfl (rFn (rlc (.dat rfl) <| rln)) <| sn) (.cons rfl (ro1 (by exact tZ_137.symm) (rlc (.row (r' := 1) rfl) rln)) <| .row 141 <| .nil) rfl rfl) ?_
 refine RI_nil ?_
 refine PI_range (n := 3) (os := [some ⟨137, [[.own 1 ([] : List api_Found).length]]⟩, some ⟨141, List.map R141 ([] : List api_Found)⟩]) (os' := [some ⟨137, [[.own 1 r.length]]⟩, some ⟨141, List.map R141 r⟩]) (hp' := [some ⟨137, [[.own 1 r.length]]⟩, some ⟨141, List.map R141 r⟩]) [0, 1] rfl rfl rfl (by kernel_rfl) rfl rfl (fun Bx l fn φ a w hc hBx hmp => ?_) (.cons rfl (ro1 (by exact tZ_137.symm) (rlc (.own _ rfl) rln)) <| .cons rfl (roM D141) <| .nil) rfl (.lent 0 (.inl rfl) rfl (ro1 (by exact tZ_137.symm) (rlc (.own _ (.inl rfl)) rln)) <| .lent 1 (.inl rfl) rfl (roM D141) <| .nil) rfl rfl (tp := 3) rfl ?_
 ·
  refine it_scan (fun x xs l h_l => ?_) h
  refine y_of (tm := [(3, .ptr 0 1 0 0), (8, .int .i64 x.At), (9, .agg (List.map C36 x.Frame.toList))]) (st1 := ⟨(5, .ptr 2 1 0 0) :: (4, .int .i64 x.At) :: [(3, .ptr 0 1 0 0), (8, .int .i64 x.At), (9, .agg (List.map C36 x.Frame.toList))], [some ⟨137, [[.own 1 xs.length]]⟩, some ⟨141, List.map R141 xs⟩, some ⟨38, [(List.map C36 x.Frame.toList)]⟩]⟩) rfl rfl rfl hc.size (tm_two rfl (by show Nat.blt _ a.tmps.size = true; rw [hc.size]; rfl) (by show Nat.blt _ a.tmps.size = true; rw [hc.size]; rfl) rfl rfl rfl rfl rfl (slot_box hc rfl rfl rfl hBx)) (fun w0 A W φ0 => ?_) (fun w0 A W φ0 => ?_)
  ·
   refine TI_seq (TI_reg ?_)
   refine RI_q _ rfl rfl (v_assign (ov rfl)) ?_
   refine RI_nil ?_
   refine TI_reg ?_
   refine RI_w _ _ rfl rfl (w_alloc (row := (List.map C36 (Vector.replicate 64 0).toList)) 2 rfl tZ38 rfl tZ_38) ?_
   refine RI_w _ _ rfl rfl (w_store (ov rfl) (ov rfl) (cells_agg tA38 arL) rfl rfl rfl (put_le (at_all arL) arL) (cell1_all (arC fun _ => rfl)) (put_all (Eq.trans arL (Eq.symm arL)))) ?_
   exact RI_nil ⟨rfl, rfl⟩
  ·
   refine TI_block (TI_reg ?_)
   refine RI_q _ rfl rfl (v_loadS (ov rfl) rfl rfl rfl tS137 rfl) ?_
   refine RI_q _ rfl rfl (v_move (ov rfl)) ?_
   refine RI_q _ rfl rfl (v_loadA (ov rfl) rfl rfl rfl tA38 (at_sub (at_all arL)) arL (hns := (nsM fun _ => rfl))) ?_
   refine RI_q _ rfl rfl (v_buildX (zr := (.int .i64 0) :: ((List.map C36 (Vector.replicate 64 0).toList) ++ ([]))) tPL141 tHA141 tZ141 (by kernel_rfl) (.cons (cvs (ov rfl) (cell1_b rfl)) <| .cons (cva (ov rfl)) <| .nil) (fa_cons rfl rfl (at0 (hdc (n := 0) hd0)) (put1) <| fa_cons rfl arL (atc (o := 0) (at0 (hdw arL))) (putc (o := 0) (putw (Eq.trans arL (Eq.symm arL)))) <| fa_nil)) ?_
   refine RI_q _ rfl rfl (v_lit tL137 (.cons (cva (ov rfl)) (lnC (n := 64) (lnA (m := 64) (n := 0) arL (lnN))) (pwD (alC rfl (alA (arD fun _ => rfl) (alN)))) <| .nil) rfl rfl) ?_
   refine RI_w _ _ rfl rfl (w_appendG (ov rfl) (slv_sl (ov rfl) tZ_141) tL137 rfl rfl rfl (fun x => cell1_all (E141 x)) rfl h_l) ?_
   refine RI_w _ _ rfl rfl (w_store (ov rfl) (ov rfl) (cells_scal tS137) rfl rfl rfl (Nat.le_of_ble_eq_true rfl) (cell1_all rfl) rfl) ?_
   refine RI_ent (Ent.sel [some 0, some 1] (sn) (.cons rfl (ro1 (by exact tZ_137.symm) (rlc (.own (r' := 1) _ rfl) rln)) <| .cons rfl (roM D141) <| .nil) rfl rfl) ?_
   exact RI_nil ⟨rfl, rfl⟩
 ·
  refine DI_seq ?_
  refine RD_q _ rfl rfl rfl (v_loadS (ov rfl) rfl rfl rfl tS137 rfl) ?_
  refine RD_q _ rfl rfl rfl (v_assign (ov rfl)) ?_
  refine RD_nil ?_
  exact DI_ret (.one (.tmp rfl (View.ownM rfl rfl D141))) rfl rfl
end Go.Proofs.YtciaeohnkfnamaaDoor
