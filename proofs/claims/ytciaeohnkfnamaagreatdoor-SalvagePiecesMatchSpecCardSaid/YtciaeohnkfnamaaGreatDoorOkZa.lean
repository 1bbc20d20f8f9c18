/- A text of the proof: a verified executor of the program form, or the contracts of the functions that the law reaches. -/
import Derived.Test.YtciaeohnkfnamaaGreatDoorVQ
import Derived.Test.YtciaeohnkfnamaaGreatDoorShT
import Derived.Test.YtciaeohnkfnamaaGreatDoorProg
import Derived.Test.YtciaeohnkfnamaaGreatDoorLayZ
set_option linter.all false
namespace Go.Proofs.YtciaeohnkfnamaaGreatDoor
open Go Go.Vx
set_option maxRecDepth 10000
set_option maxHeartbeats 1000000
set_option linter.unusedVariables false
theorem tZ_5 : Tryz.prog.cellsOf 5 = 1 := by kernel_rfl
theorem tZ_70 : Tryz.prog.cellsOf 70 = 2 := by kernel_rfl
theorem tA70 : tAgg Tryz.prog 70 2 = true := by kernel_rfl
theorem tF70_0 : tFld Tryz.prog 70 0 0 = true := by kernel_rfl
theorem tS68 : tScal Tryz.prog 68 = true := by kernel_rfl
theorem tL68 : tSl Tryz.prog 68 5 1 1 = true := by kernel_rfl
theorem tF70_1 : tFld Tryz.prog 70 1 1 = true := by kernel_rfl
theorem tS4 : tScal Tryz.prog 4 = true := by kernel_rfl
theorem tS5 : tScal Tryz.prog 5 = true := by kernel_rfl
theorem tI5 : tInt Tryz.prog 5 .u8 = true := by kernel_rfl
theorem tI3 : tInt Tryz.prog 3 .i64 = true := by kernel_rfl
theorem tZ70 : zeroOf Tryz.prog 70 = some [.slice none 0 0, .bool false] := by kernel_rfl
theorem tPL70 : structPl Tryz.prog 70 = some [(0, 1), (1, 1)] := by kernel_rfl
theorem tHA70 : hasAll Tryz.prog 70 = true := by kernel_rfl
theorem tB4 : (match Tryz.prog.underlying 4 with | some .bool => true | _ => false) = true := by kernel_rfl
theorem tU85 : tU8 Tryz.prog 5 = true := by kernel_rfl
theorem tStr9 : tStr Tryz.prog 9 = true := by kernel_rfl
theorem tZ_3 : Tryz.prog.cellsOf 3 = 1 := by kernel_rfl
theorem tL28 : tSl Tryz.prog 28 3 1 8 = true := by kernel_rfl
theorem tZ3 : zeroOf Tryz.prog 3 = some [.int .i64 0] := by kernel_rfl
theorem tZ49 : zeroOf Tryz.prog 49 = some [.int .u16 0, .int .u16 0, .int .u16 0, .int .u16 0, .int .u16 0, .int .u16 0, .int .u16 0, .int .u16 0, .int .u16 0, .int .u16 0, .int .u16 0, .int .u16 0, .int .u16 0, .int .u16 0, .int .u16 0, .int .u16 0, .int .u16 0, .int .u16 0, .int .u16 0, .int .u16 0, .int .u16 0, .int .u16 0, .int .u16 0, .int .u16 0, .int .u16 0, .int .u16 0, .int .u16 0, .int .u16 0, .int .u16 0, .int .u16 0, .int .u16 0, .int .u16 0, .int .u16 0, .int .u16 0, .int .u16 0, .int .u16 0, .int .u16 0, .int .u16 0, .int .u16 0, .int .u16 0, .int .u16 0, .int .u16 0, .int .u16 0, .int .u16 0, .int .u16 0, .int .u16 0, .int .u16 0, .int .u16 0, .int .u16 0, .int .u16 0, .int .u16 0, .int .u16 0, .int .u16 0, .int .u16 0, .int .u16 0, .int .u16 0, .int .u16 0, .int .u16 0, .int .u16 0, .int .u16 0, .int .u16 0, .int .u16 0, .int .u16 0, .int .u16 0] := by kernel_rfl
theorem tZ_49 : Tryz.prog.cellsOf 49 = 64 := by kernel_rfl
theorem tR49 : tArr Tryz.prog 49 64 47 1 = true := by kernel_rfl
theorem tA49 : tAgg Tryz.prog 49 64 = true := by kernel_rfl
theorem tI47 : tInt Tryz.prog 47 .u16 = true := by kernel_rfl
theorem tS47 : tScal Tryz.prog 47 = true := by kernel_rfl
theorem tS3 : tScal Tryz.prog 3 = true := by kernel_rfl
theorem tR280 : tArr Tryz.prog 280 4 3 1 = true := by kernel_rfl
theorem tZ280 : zeroOf Tryz.prog 280 = some [.int .i64 0, .int .i64 0, .int .i64 0, .int .i64 0] := by kernel_rfl
theorem tZ5 : zeroOf Tryz.prog 5 = some [.int .u8 0] := by kernel_rfl
theorem tL102 : tSl Tryz.prog 102 70 2 32 = true := by kernel_rfl
theorem tZ_88 : Tryz.prog.cellsOf 88 = 65 := by kernel_rfl
theorem tZ_82 : Tryz.prog.cellsOf 82 = 1 := by kernel_rfl
theorem tR250 : tArr Tryz.prog 250 4 47 1 = true := by kernel_rfl
theorem tR284 : tArr Tryz.prog 284 192 5 1 = true := by kernel_rfl
theorem tA284 : tAgg Tryz.prog 284 192 = true := by kernel_rfl
theorem tZ_284 : Tryz.prog.cellsOf 284 = 192 := by kernel_rfl
theorem tZ_68 : Tryz.prog.cellsOf 68 = 1 := by kernel_rfl
theorem tZ82 : zeroOf Tryz.prog 82 = some [.slice none 0 0] := by kernel_rfl
theorem tS82 : tScal Tryz.prog 82 = true := by kernel_rfl
theorem tPL88 : structPl Tryz.prog 88 = some [(0, 1), (1, 64)] := by kernel_rfl
theorem tHA88 : hasAll Tryz.prog 88 = true := by kernel_rfl
theorem tZ88 : zeroOf Tryz.prog 88 = some ([.int .i64 0] ++ (List.flatten (List.replicate 64 [.int .u16 0]))) := by kernel_rfl
theorem tL82 : tSl Tryz.prog 82 88 65 136 = true := by kernel_rfl
theorem tA88 : tAgg Tryz.prog 88 65 = true := by kernel_rfl
theorem tF88_0 : tFld Tryz.prog 88 0 0 = true := by kernel_rfl
theorem tMp215 : tMap Tryz.prog 215 3 3 = true := by kernel_rfl
theorem tPL217 : structPl Tryz.prog 217 = some [(0, 1), (1, 1), (2, 1), (3, 1)] := by kernel_rfl
theorem tHA217 : hasAll Tryz.prog 217 = true := by kernel_rfl
theorem tZ217 : zeroOf Tryz.prog 217 = some [.slice none 0 0, .slice none 0 0, .slice none 0 0, .map none] := by kernel_rfl
theorem tA217 : tAgg Tryz.prog 217 4 = true := by kernel_rfl
theorem tF217_1 : tFld Tryz.prog 217 1 1 = true := by kernel_rfl
theorem tZV3 : zeroV Tryz.prog 3 = some (.int .i64 0) := by kernel_rfl
theorem tF88_1 : tFld Tryz.prog 88 1 1 = true := by kernel_rfl
theorem tF217_3 : tFld Tryz.prog 217 3 3 = true := by kernel_rfl
theorem tS215 : tScal Tryz.prog 215 = true := by kernel_rfl
theorem tF217_2 : tFld Tryz.prog 217 2 2 = true := by kernel_rfl
theorem tS28 : tScal Tryz.prog 28 = true := by kernel_rfl
theorem tZ_217 : Tryz.prog.cellsOf 217 = 4 := by kernel_rfl
theorem tZ_215 : Tryz.prog.cellsOf 215 = 1 := by kernel_rfl
theorem tZ74 : zeroOf Tryz.prog 74 = some [.int .i64 0, .int .i64 0, .int .i64 0, .int .i64 0, .int .i64 0, .int .i64 0, .int .i64 0, .int .i64 0, .int .i64 0, .int .i64 0, .int .i64 0, .int .i64 0, .int .i64 0, .int .i64 0, .int .i64 0, .int .i64 0, .int .i64 0, .int .i64 0, .int .i64 0, .int .i64 0, .int .i64 0, .int .i64 0, .int .i64 0, .int .i64 0, .int .i64 0, .int .i64 0, .int .i64 0, .int .i64 0, .int .i64 0, .int .i64 0, .int .i64 0, .int .i64 0, .int .i64 0, .int .i64 0, .int .i64 0, .int .i64 0, .int .i64 0, .int .i64 0, .int .i64 0, .int .i64 0, .int .i64 0, .int .i64 0, .int .i64 0, .int .i64 0, .int .i64 0, .int .i64 0, .int .i64 0, .int .i64 0, .int .i64 0, .int .i64 0, .int .i64 0, .int .i64 0, .int .i64 0, .int .i64 0, .int .i64 0, .int .i64 0, .int .i64 0, .int .i64 0, .int .i64 0, .int .i64 0, .int .i64 0, .int .i64 0, .int .i64 0, .int .i64 0] := by kernel_rfl
theorem tZ_74 : Tryz.prog.cellsOf 74 = 64 := by kernel_rfl
theorem tR74 : tArr Tryz.prog 74 64 3 1 = true := by kernel_rfl
theorem tA74 : tAgg Tryz.prog 74 64 = true := by kernel_rfl
theorem tPL76 : structPl Tryz.prog 76 = some [(0, 1), (1, 64), (65, 64), (129, 1), (130, 1), (131, 1)] := by kernel_rfl
theorem tHA76 : hasAll Tryz.prog 76 = true := by kernel_rfl
theorem tZ76 : zeroOf Tryz.prog 76 = some ([.int .i64 0] ++ (List.flatten (List.replicate 64 [.int .u16 0])) ++ (List.flatten (List.replicate 64 [.int .i64 0])) ++ [.bool false, .int .i64 0, .bool false]) := by kernel_rfl
theorem tL58 : tSl Tryz.prog 58 76 132 672 = true := by kernel_rfl
theorem tZ_76 : Tryz.prog.cellsOf 76 = 132 := by kernel_rfl
theorem tF217_0 : tFld Tryz.prog 217 0 0 = true := by kernel_rfl
theorem tI164 : tInt Tryz.prog 164 .u64 = true := by kernel_rfl
theorem tZ224 : zeroOf Tryz.prog 224 = some [.bool false, .bool false, .bool false, .bool false, .bool false, .bool false, .bool false, .bool false, .bool false, .bool false, .bool false, .bool false, .bool false, .bool false, .bool false, .bool false, .bool false, .bool false, .bool false, .bool false, .bool false, .bool false, .bool false, .bool false, .bool false, .bool false, .bool false, .bool false, .bool false, .bool false, .bool false, .bool false, .bool false, .bool false, .bool false, .bool false, .bool false, .bool false, .bool false, .bool false, .bool false, .bool false, .bool false, .bool false, .bool false, .bool false, .bool false, .bool false, .bool false, .bool false, .bool false, .bool false, .bool false, .bool false, .bool false, .bool false, .bool false, .bool false, .bool false, .bool false, .bool false, .bool false, .bool false, .bool false] := by kernel_rfl
theorem tZ_224 : Tryz.prog.cellsOf 224 = 64 := by kernel_rfl
theorem tR224 : tArr Tryz.prog 224 64 4 1 = true := by kernel_rfl
theorem tA224 : tAgg Tryz.prog 224 64 = true := by kernel_rfl
theorem tA76 : tAgg Tryz.prog 76 132 = true := by kernel_rfl
theorem tF76_1 : tFld Tryz.prog 76 1 1 = true := by kernel_rfl
theorem tF76_2 : tFld Tryz.prog 76 2 65 = true := by kernel_rfl
theorem tMp222 : tMap Tryz.prog 222 3 58 = true := by kernel_rfl
theorem tZV58 : zeroV Tryz.prog 58 = some (.slice none 0 0) := by kernel_rfl
theorem tF76_0 : tFld Tryz.prog 76 0 0 = true := by kernel_rfl
theorem tZ_222 : Tryz.prog.cellsOf 222 = 1 := by kernel_rfl
theorem tIsl58 : (match Tryz.prog.underlying 58 with | some (.slice _) => true | _ => false) = true := by kernel_rfl
theorem tF76_4 : tFld Tryz.prog 76 4 130 = true := by kernel_rfl
theorem tF76_5 : tFld Tryz.prog 76 5 131 = true := by kernel_rfl
theorem tF76_3 : tFld Tryz.prog 76 3 129 = true := by kernel_rfl
theorem tZ_4 : Tryz.prog.cellsOf 4 = 1 := by kernel_rfl
theorem tZ_172 : Tryz.prog.cellsOf 172 = 5 := by kernel_rfl
theorem tL101 : tSl Tryz.prog 101 172 5 88 = true := by kernel_rfl
theorem tA172 : tAgg Tryz.prog 172 5 = true := by kernel_rfl
theorem tZ172 : zeroOf Tryz.prog 172 = some [.int .i64 0, .int .i64 0, .slice none 0 0, .slice none 0 0, .slice none 0 0] := by kernel_rfl
theorem tF172_2 : tFld Tryz.prog 172 2 2 = true := by kernel_rfl
theorem tS169 : tScal Tryz.prog 169 = true := by kernel_rfl
theorem tL169 : tSl Tryz.prog 169 68 1 24 = true := by kernel_rfl
theorem tF172_0 : tFld Tryz.prog 172 0 0 = true := by kernel_rfl
theorem tF172_1 : tFld Tryz.prog 172 1 1 = true := by kernel_rfl
theorem tF172_3 : tFld Tryz.prog 172 3 3 = true := by kernel_rfl
theorem tF172_4 : tFld Tryz.prog 172 4 4 = true := by kernel_rfl
theorem tS170 : tScal Tryz.prog 170 = true := by kernel_rfl
theorem tL170 : tSl Tryz.prog 170 4 1 1 = true := by kernel_rfl
def gl0 : Gl := ⟨1, [(0, (gv_frame_syncs.toList.map fun z => Value.int .u16 z).toArray)]⟩
def R5 (x : Int) : List AV := [.int .u8 x]
theorem D5 (x : Int) : (R5 x).length = Tryz.prog.cellsOf 5 ∧ (R5 x).all datB = true := ⟨tZ_5.symm, rfl⟩
def R3 (x : Int) : List AV := [.int .i64 x]
def C47 (x : Int) : AV := .int .u16 x
def C3 (x : Int) : AV := .int .i64 x
theorem D3 (x : Int) : (R3 x).length = Tryz.prog.cellsOf 3 ∧ (R3 x).all datB = true := ⟨tZ_3.symm, rfl⟩
def R70 (x : api_Piece) : List AV := [.sl 5 (List.map R5 x.Bytes), .bool x.Half]
def R88 (x : api_Found) : List AV := (.int .i64 x.At) :: ((List.map C47 x.Frame.toList) ++ ([]))
theorem D88 (x : api_Found) : (R88 x).length = Tryz.prog.cellsOf 88 ∧ (R88 x).all datB = true := ⟨Eq.trans (b := 65) (lnC (n := 64) (lnA (m := 64) (n := 0) arL (lnN))) tZ_88.symm, (alC rfl (alA (arD fun _ => rfl) (alN)))⟩
def C5 (x : Int) : AV := .int .u8 x
theorem E88 (x : api_Found) : (R88 x).all c1B = true := (alC rfl (alA (arC fun _ => rfl) (alN)))
def FK3 (x : Int) : AV := .int .i64 x
theorem tKO3 : KeyOK Tryz.prog 3 FK3 kqI := key_int (fun _ => rfl) tI3
def FV3 (x : Int) : AV := .int .i64 x
def R76 (x : api_Rest) : List AV := (.int .i64 x.Number) :: ((List.map C47 x.Frame.toList) ++ (((List.map C3 x.States.toList) ++ ((.bool x.Sound) :: (.int .i64 x.Copies) :: (.bool x.Conflict) :: []))))
def C4 (x : Bool) : AV := .bool x
theorem E76 (x : api_Rest) : (R76 x).all c1B = true := (alC rfl (alA (arC fun _ => rfl) (alA (arC fun _ => rfl) (alC rfl (alC rfl (alC rfl (alN)))))))
theorem D76 (x : api_Rest) : (R76 x).length = Tryz.prog.cellsOf 76 ∧ (R76 x).all datB = true := ⟨Eq.trans (b := 132) (lnC (n := 131) (lnA (m := 64) (n := 67) arL (lnA (m := 64) (n := 3) arL (lnC (n := 2) (lnC (n := 1) (lnC (n := 0) (lnN))))))) tZ_76.symm, (alC rfl (alA (arD fun _ => rfl) (alA (arD fun _ => rfl) (alC rfl (alC rfl (alC rfl (alN)))))))⟩
theorem tEq49 : eqTy Tryz.prog 49 ((List.replicate 64 ([.i .u16])).flatten) := ⟨by kernel_rfl, by kernel_rfl, by kernel_rfl⟩
def R68 (x : List Int) : List AV := [.sl 5 (List.map R5 x)]
def R4 (x : Bool) : List AV := [.bool x]
def R172 (x : api_Memory) : List AV := [.int .i64 x.Slots, .int .i64 x.Limit, .sl 68 (List.map R68 x.Sectors), .sl 3 (List.map R3 x.Wear), .sl 4 (List.map R4 x.Bad)]
theorem D70 (x : api_Piece) : (R70 x).length = Tryz.prog.cellsOf 70 ∧ (R70 x).all datB = true := ⟨tZ_70.symm, rfl⟩
theorem ok_salvage_CheckPiece {p : api_Piece} {r : Int} (h : salvage_CheckPiece p = some r) :
  CSpec Tryz.prog gl0 48 [.agg [.sl 5 (List.map R5 p.Bytes), .bool p.Half]] (.int .i64 r) := by
 unfold salvage_CheckPiece at h
 replace h := bnd0 h
 refine spec_of (by kernel_rfl) Tryz.func48 Y Y ?_
 intro w0 A
 refine Tr <| Rq Y (v_boxD (cva (ov Y)) Y tZ_70 Y) <| Rq Y (v_assign (ov Y)) <| R_nil <| T_seq <| T_block <| T_keep (kc 1 Y <| kn) Y <| Tr <| Rq Y (v_fieldR (ov Y) tF70_0) <| Rq Y (v_loadS_r (ov Y) tS68 Y) <| Rq Y (v_len (slv_sl (ov Y) tZ_5) tL68 (len_map _ _)) <| Rq Y (v_gtr (ov Y) (ov Y)) <| Rq Y (v_assign (ov Y)) <| R_nil <| T_keep (kc 1 Y <| kc 3 Y <| kn) Y <| T_if h Y (fun b3 h => ?_) (fun b3 h => ?_)
 ·
  refine T_keep (kn) Y <| Tr <| Rq Y (v_assign (ov Y)) <| R_nil ?_
  obtain rfl := rt (v := 3) h
  refine T_ret (retq ?_ (.one (.tmp Y (Dat.view (.b Y)))))
  rfl
 ·
  refine T_keep (kc 1 Y <| kn) Y <| Tr <| Rq Y (v_fieldR (ov Y) tF70_1) <| Rq Y (v_loadS_r (ov Y) tS4 Y) <| Rq Y (v_move (ov Y)) <| Rq Y (.guarded (p.Half == true) Y Y Y Y fun h => v_fieldR (ov Y) tF70_0) <| Rq Y (.guarded (p.Half == true) Y Y Y Y fun h => v_loadS_r (ow Y h) tS68 Y) <| Rq Y (.guarded (p.Half == true) Y Y Y Y fun h => v_len (slv_sl (ow Y h) tZ_5) tL68 (len_map _ _)) <| Rq Y (.guarded (p.Half == true) Y Y Y Y fun h => v_eql (ow Y h) (ov Y)) <| Rq Y (.guarded (p.Half == true) Y Y Y Y fun h => v_move (ow Y h)) <| Rq Y (.guarded2 ((p.Half == true) && ((decide ((p.Bytes.length : Int) = 0)) == false)) Y Y Y Y fun h => v_fieldR (ov Y) tF70_0) <| Rq Y (.guarded2 ((p.Half == true) && ((decide ((p.Bytes.length : Int) = 0)) == false)) Y Y Y Y fun h => v_loadS_r (ow Y h) tS68 Y) ?_
  obtain ⟨x, h_x, h⟩ := bnd h
  refine Rq Y (.guarded2 ((p.Half == true) && ((decide ((p.Bytes.length : Int) = 0)) == false)) Y Y Y Y fun h => v_ixSG (ow Y h) (ov Y) tL68 (gdT h_x h)) ?_
  refine Rq Y (.guarded2 ((p.Half == true) && ((decide ((p.Bytes.length : Int) = 0)) == false)) Y Y Y Y fun h => v_loadS_r (ow Y h) tS5 Y) ?_
  obtain ⟨q, h_q, h⟩ := bnd h
  refine Rq Y (.guarded2 ((p.Half == true) && ((decide ((p.Bytes.length : Int) = 0)) == false)) Y Y Y Y fun h => v_shrG (ow Y h) (ov Y) (gdT h_q h)) ?_
  refine Rq Y (.guarded2 ((p.Half == true) && ((decide ((p.Bytes.length : Int) = 0)) == false)) Y Y Y Y fun h => v_neq (ow Y h) (ov Y)) ?_
  refine Rq Y (.guarded (p.Half == true) Y Y Y Y fun h => v_or (ow Y h) (fun hp => ow Y (gA h (gF hp)))) ?_
  refine Rq Y (v_and (ov Y) (fun hp => ow Y (gT hp))) ?_
  refine Rq Y (v_assign (ov Y)) ?_
  refine R_nil <| T_keep (kc 8 Y <| kn) Y <| T_if h Y (fun b8 h => ?_) (fun b8 h => ?_)
  ·
   refine T_keep (kn) Y <| Tr <| Rq Y (v_assign (ov Y)) <| R_nil ?_
   obtain rfl := rt (v := 2) h
   refine T_ret (retq ?_ (.one (.tmp Y (Dat.view (.b Y)))))
   rfl
  ·
   refine T_skip <| T_keep (kn) Y <| Tr <| Rq Y (v_assign (ov Y)) <| R_nil ?_
   obtain rfl := rt (v := 0) h
   refine T_ret (retq ?_ (.one (.tmp Y (Dat.view (.b Y)))))
   rfl

theorem ok_salvage_ahead {p : api_Piece} {r : Int} (h : salvage_ahead p = some r) :
  CSpec Tryz.prog gl0 114 [.agg [.sl 5 (List.map R5 p.Bytes), .bool p.Half]] (.int .i64 r) := by
 unfold salvage_ahead at h
 replace h := bnd0 h
 refine spec_of (by kernel_rfl) Tryz.func114 Y Y ?_
 intro w0 A
 refine Tr <| Rq Y (v_boxD (cva (ov Y)) Y tZ_70 Y) <| Rq Y (v_assign (ov Y)) <| R_nil <| T_seq <| T_keep (kc 1 Y <| kn) Y <| Tr <| Rq Y (v_fieldR (ov Y) tF70_1) <| Rq Y (v_loadS_r (ov Y) tS4 Y) <| R_nil <| T_keep (kc 4 Y <| kn) Y <| T_if h Y (fun b4 h => ?_) (fun b4 h => ?_)
 ·
  refine T_keep (kn) Y <| Tr <| Rq Y (v_assign (ov Y)) <| R_nil ?_
  obtain rfl := rt (v := 1) h
  refine T_ret (retq ?_ (.one (.tmp Y (Dat.view (.b Y)))))
  rfl
 ·
  refine T_skip <| T_keep (kn) Y <| Tr <| Rq Y (v_assign (ov Y)) <| R_nil ?_
  obtain rfl := rt (v := 0) h
  refine T_ret (retq ?_ (.one (.tmp Y (Dat.view (.b Y)))))
  rfl

theorem ok_salvage_length {p : api_Piece} {r : Int} (h : salvage_length p = some r) :
  CSpec Tryz.prog gl0 112 [.agg [.sl 5 (List.map R5 p.Bytes), .bool p.Half]] (.int .i64 r) := by
 unfold salvage_length at h
 replace h := bnd0 h
 refine spec_of (by kernel_rfl) Tryz.func112 Y Y ?_
 intro w0 A
 refine Tr <| Rq Y (v_boxD (cva (ov Y)) Y tZ_70 Y) <| Rq Y (v_assign (ov Y)) <| R_nil <| T_keep (kc 1 Y <| kc 2 Y <| kn) Y <| T_seq (T_draw (cw := md0) (by kernel_rfl) ?_)
 refine Dq 0 Y Y Y (v_fieldR (ov Y) tF70_0) ?_
 refine Dq 1 Y Y Y (v_loadS_r (ov Y) tS68 Y) ?_
 refine Dq 2 Y Y Y (v_len (slv_sl (ov Y) tZ_5) tL68 (len_map _ _)) ?_
 refine Dq 3 Y Y Y (v_mul (ov Y) (ov Y) Y) ?_
 refine Dq 4 Y Y Y (v_loadA_r (ov Y) tA70 Y Y) ?_
 obtain ⟨y, h_y, h⟩ := bnd h
 refine Dq 5 Y Y Y (v_call (ok_salvage_ahead h_y) (.cons (ov Y) (.aggB Y) <| .nil)) ?_
 refine Dq 6 Y Y Y (v_sub (ov Y) (ov Y) Y) ?_
 refine Dq 7 Y Y Y (v_assign (ov Y)) ?_
 refine D_done (by kernel_rfl) ?_
 obtain rfl := rt (v := (i64 ((i64 (2 * (p.Bytes.length : Int))) - y))) h
 refine T_ret (retq ?_ (.one (.tmp Y (Dat.view (.b Y)))))
 rfl

theorem ok_ref4_Halves {p : api_Piece} {r : (List Int)} (h : ref4_Halves p = some r) :
  CSpec Tryz.prog gl0 35 [.agg [.sl 5 (List.map R5 p.Bytes), .bool p.Half]] (.sl 5 (List.map R5 r)) := by
 unfold ref4_Halves at h
 replace h := bnd0 h
 refine spec_of (by kernel_rfl) Tryz.func35 Y Y ?_
 intro w0 A
 refine Tr <| Rq Y (v_boxD (cva (ov Y)) Y tZ_70 Y) <| Rq Y (v_assign (ov Y)) <| R_nil <| T_keep (kc 1 Y <| kn) Y <| Tr <| Rq Y (v_assign (ov Y)) <| R_nil <| T_joinG id (t1 fun out => ⟨[(3, .own 0 out.length)], [some ⟨5, List.map R5 out⟩]⟩) h (fun h => ?_) (fun j h => ?_)
 ·
  refine Tr <| Rq Y (v_fieldR (ov Y) tF70_0) <| Rq Y (v_loadS_r (ov Y) tS68 Y) <| Rq Y (v_len (slv_sl (ov Y) tZ_5) tL68 (len_map _ _)) <| Rq Y (v_move (ov Y)) <| R_nil <| T_block ?_
  obtain ⟨r1, hl1, ho1⟩ := bndL h
  refine T_loopG _ (t2 fun out2 i => ⟨[(1, .rp [.sl 5 (List.map R5 p.Bytes), .bool p.Half] 0), (3, .own 0 out2.length), (7, .sl 5 (List.map R5 p.Bytes)), (8, .int .i64 (p.Bytes.length : Int)), (9, .int .i64 i)], [some ⟨5, List.map R5 out2⟩]⟩) _ hl1 (Ent.sel [none] (sd 1 Y Y <| sr 3 Y (.row Y) <| sd 7 Y Y <| sd 8 Y Y <| sd 9 Y Y <| sn) (.row 5 <| .nil) Y Y) (fun n1 s1 h => ?_)
  obtain ⟨out2, i⟩ := s1
  replace h := t2i h
  refine t2T ?_
  unfold ref4_Halves_L1 at h
  refine Tr <| Rq Y (v_lss (ov Y) (ov Y)) <| R_nil <| T_seq <| T_if h Y (fun b10 h => ?_) (fun b10 h => ?_)
  ·
   refine T_skip <| T_seq <| T_block <| T_keep (kc 1 Y <| kc 3 Y <| kc 7 Y <| kc 8 Y <| kc 9 Y <| kn) Y <| Tr <| Rq Y (v_move (ov Y)) ?_
   obtain ⟨x, h_x, h⟩ := bnd h
   refine Rq Y (v_ixSG (ov Y) (ov Y) tL68 h_x) ?_
   refine Rq Y (v_loadS_r (ov Y) tS5 Y) ?_
   refine Rq Y (v_assign (ov Y)) ?_
   refine Rq Y (v_assign (ov Y)) ?_
   refine R_nil <| T_joinG id (t1 fun out3 => ⟨[(1, .rp [.sl 5 (List.map R5 p.Bytes), .bool p.Half] 0), (3, .own 0 out3.length), (5, .int .u8 x), (7, .sl 5 (List.map R5 p.Bytes)), (8, .int .i64 (p.Bytes.length : Int)), (9, .int .i64 i)], [some ⟨5, List.map R5 out3⟩]⟩) h (fun h => ?_) (fun j h => ?_)
   ·
    refine T_keep (kc 1 Y <| kc 3 Y <| kc 4 Y <| kc 5 Y <| kc 7 Y <| kc 8 Y <| kc 9 Y <| kn) Y <| Tr <| Rq Y (v_move (ov Y)) <| Rq Y (v_gtr (ov Y) (ov Y)) <| Rq Y (v_move (ov Y)) <| Rq Y (.guarded ((decide (0 < i)) == false) Y Y Y Y fun h => v_fieldR (ov Y) tF70_1) <| Rq Y (.guarded ((decide (0 < i)) == false) Y Y Y Y fun h => v_loadS_r (ow Y h) tS4 Y) <| Rq Y (.guarded ((decide (0 < i)) == false) Y Y Y Y fun h => v_not (ow Y h)) <| Rq Y (v_or (ov Y) (fun hp => ow Y (gF hp))) <| R_nil <| T_keep (kc 1 Y <| kc 3 Y <| kc 5 Y <| kc 7 Y <| kc 8 Y <| kc 9 Y <| kc 20 Y <| kn) Y <| T_if h Y (fun b20 h => ?_) (fun b20 h => ?_)
    ·
     refine T_keep (kc 1 Y <| kc 3 Y <| kc 5 Y <| kc 7 Y <| kc 8 Y <| kc 9 Y <| kn) Y <| T_reg <| Rq Y (v_move (ov Y)) <| Rq Y (v_move (ov Y)) ?_
     obtain ⟨q, h_q, h⟩ := bnd h
     refine Rq Y (v_quoG (ov Y) (ov Y) h_q) ?_
     refine R_q (.sl 5 (List.map R5 ([q] : List Int))) Y (v_lit tL68 (.cons (cvs (ov Y) (cell1_b Y)) Y (.cons (.b Y) .nil) <| .nil) Y Y) ?_
     obtain ⟨l, h_l, h⟩ := bnd h
     refine Rx Y (w_appendG (ov Y) (slv_sl (ov Y) tZ_5) tL68 Y Y Y (fun _ => cell1_all Y) Y h_l) ?_
     refine Rq Y (v_assign (ov Y)) ?_
     refine R_nil ?_
     exact ⟨l, h, Ent.sel [some 0] (sd 1 Y Y <| sr 3 Y (.own _ Y) <| sd 5 Y Y <| sd 7 Y Y <| sd 8 Y Y <| sd 9 Y Y <| sn) (.cons Y (roM D5) <| .nil) Y Y⟩
    ·
     refine T_skip ?_
     exact ⟨out2, h, Ent.sel [some 0] (sd 1 Y Y <| sr 3 Y (.own _ Y) <| sd 5 Y Y <| sd 7 Y Y <| sd 8 Y Y <| sd 9 Y Y <| sn) (.cons Y (roM D5) <| .nil) Y Y⟩
   ·
    obtain ⟨out3, rfl⟩ : ∃ x, x = j := ⟨_, rfl⟩
    replace h := t1i h
    refine t1T ?_
    refine T_reg <| Rq Y (v_move (ov Y)) <| Rq Y (v_move (ov Y)) ?_
    obtain ⟨q2, h_q2, h⟩ := bnd h
    refine Rq Y (v_remG (ov Y) (ov Y) h_q2) ?_
    refine R_q (.sl 5 (List.map R5 ([q2] : List Int))) Y (v_lit tL68 (.cons (cvs (ov Y) (cell1_b Y)) Y (.cons (.b Y) .nil) <| .nil) Y Y) ?_
    obtain ⟨l2, h_l2, h⟩ := bnd h
    refine Rx Y (w_appendG (ov Y) (slv_sl (ov Y) tZ_5) tL68 Y Y Y (fun _ => cell1_all Y) Y h_l2) ?_
    refine Rq Y (v_assign (ov Y)) ?_
    refine R_nil <| T_keep (kc 1 Y <| kc 3 Y <| kc 7 Y <| kc 8 Y <| kc 9 Y <| kn) Y <| T_reg <| Rq Y (v_add (ov Y) (ov Y) Y) <| Rq Y (v_move (ov Y)) <| R_nil ?_
    exact ⟨(l2, (i64 (i + 1))), h, Ent.sel [some 0] (sd 1 Y Y <| sr 3 Y (.own _ Y) <| sd 7 Y Y <| sd 8 Y Y <| sd 9 Y Y <| sn) (.cons Y (roM D5) <| .nil) Y Y⟩
  ·
   refine T_exit ?_
   rw [lx h] at ho1
   replace h := ho1
   exact ⟨out2, h, Ent.sel [some 0] (sr 3 Y (.own _ Y) <| sn) (.cons Y (roM D5) <| .nil) Y Y⟩
 ·
  obtain ⟨out, rfl⟩ : ∃ x, x = j := ⟨_, rfl⟩
  replace h := t1i h
  refine t1T ?_
  refine Tr <| Rq Y (v_move (ov Y)) <| Rq Y (v_assign (ov Y)) <| R_nil ?_
  obtain rfl := rt (v := out) h
  refine T_ret (retq ?_ (.one (.tmp Y (View.ownM Y Y D5))))
  rfl

theorem ok_salvage_halfOf {b : List Int} {i : Int} {r : Int} (h : salvage_halfOf b i = some r) :
  CSpec Tryz.prog gl0 115 [.sl 5 (List.map R5 b), .int .i64 i] (.int .u8 r) := by
 unfold salvage_halfOf at h
 replace h := bnd0 h
 refine spec_of (by kernel_rfl) Tryz.func115 Y Y ?_
 intro w0 A
 refine Tr <| Rq Y (v_assign (ov Y)) <| R_nil <| Tr <| Rq Y (v_move (ov Y)) <| Rq Y (v_move (ov Y)) ?_
 obtain ⟨q, h_q, h⟩ := bnd h
 refine Rq Y (v_quoG (ov Y) (ov Y) h_q) ?_
 obtain ⟨x, h_x, h⟩ := bnd h
 refine Rq Y (v_ixSG (ov Y) (ov Y) tL68 h_x) ?_
 refine Rq Y (v_loadS_r (ov Y) tS5 Y) ?_
 refine Rq Y (v_move (ov Y)) ?_
 obtain ⟨q2, h_q2, h⟩ := bnd h
 refine Rq Y (v_remG (ov Y) (ov Y) h_q2) ?_
 refine Rq Y (v_mul (ov Y) (ov Y) Y) ?_
 refine Rq Y (v_sub (ov Y) (ov Y) Y) ?_
 obtain ⟨q3, h_q3, h⟩ := bnd h
 refine Rq Y (v_shrG (ov Y) (ov Y) h_q3) ?_
 refine Rq Y (v_and_ (ov Y) (ov Y)) ?_
 refine Rq Y (v_assign (ov Y)) ?_
 refine R_nil ?_
 obtain rfl := rt (v := (band .u8 q3 15)) h
 refine T_ret (retq ?_ (.one (.tmp Y (Dat.view (.b Y)))))
 rfl

theorem ok_salvage_cut {b : List Int} {from_ : Int} {to : Int} {r : api_Piece} (h : salvage_cut b from_ to = some r) :
  CSpec Tryz.prog gl0 113 [.sl 5 (List.map R5 b), .int .i64 from_, .int .i64 to] (.agg [.sl 5 (List.map R5 r.Bytes), .bool r.Half]) := by
 unfold salvage_cut at h
 replace h := bnd0 h
 refine spec_of (by kernel_rfl) Tryz.func113 Y Y ?_
 intro w0 A
 refine Tr <| Rx Y (w_alloc (row := [_, _]) 0 Y tZ70 Y tZ_70) <| R_nil <| T_seq <| Tr <| Rq Y (v_move (ov Y)) <| Rq Y (v_move (ov Y)) <| Rq Y (v_eql (ov Y) (ov Y)) <| R_nil <| T_keep (kc 0 Y <| kc 1 Y <| kc 2 Y <| kc 6 Y <| kc 10 Y <| kn) Y <| T_if h Y (fun b10 h => ?_) (fun b10 h => ?_)
 ·
  refine T_keep (kc 6 Y <| kn) Y <| Tr <| Rq Y (v_build (ys := [_, _]) tPL70 tHA70 tZ70 (.nil) Y) <| Rx Y (w_store (ov Y) (ov Y) (cells_agg tA70 Y) Y Y Y (Nat.le_of_ble_eq_true Y) (cell1_all Y) Y) <| R_nil ?_
  obtain rfl := rt (v := (api_Piece.mk [] false)) h
  refine T_ret (retq ?_ (.one (.agg Y Y Y Y tA70 Y Y (.cons (View.nils 5) <| .cons (Dat.view (.b Y)) <| .nil))))
  rfl
 ·
  refine T_skip <| T_keep (kc 0 Y <| kc 1 Y <| kc 2 Y <| kc 6 Y <| kn) Y <| Tr <| Rq Y (v_move (ov Y)) <| Rq Y (v_move (ov Y)) ?_
  obtain ⟨q, h_q, h⟩ := bnd h
  refine Rq Y (v_quoG (ov Y) (ov Y) h_q) ?_
  refine Rq Y (v_move (ov Y)) ?_
  refine Rq Y (v_add (ov Y) (ov Y) Y) ?_
  obtain ⟨q2, h_q2, h⟩ := bnd h
  refine Rq Y (v_quoG (ov Y) (ov Y) h_q2) ?_
  obtain ⟨l, h_l, h⟩ := bnd h
  refine Rq Y (v_sliceG (ov Y) tL68 (oi (ov Y)) (oi (ov Y)) h_l) ?_
  obtain ⟨l2, h_l2, h⟩ := bnd h
  refine Rx Y (w_append0G (r := 1) Y (ov Y) (slv_sl (ov Y) tZ_5) tL68 Y h_l2) ?_
  refine Rq Y (v_move (ov Y)) ?_
  obtain ⟨q3, h_q3, h⟩ := bnd h
  refine Rq Y (v_remG (ov Y) (ov Y) h_q3) ?_
  refine Rq Y (v_eql (ov Y) (ov Y)) ?_
  refine Rq Y (v_build (ys := [_, _]) tPL70 tHA70 tZ70 (.cons (cvs (ov Y) (cell1_b Y)) <| .cons (cvs (ov Y) (cell1_b Y)) <| .nil) Y) ?_
  refine Rx Y (w_alloc (row := [_, _]) 2 Y tZ70 Y tZ_70) ?_
  refine Rx Y (w_store (ov Y) (ov Y) (cells_agg tA70 Y) Y Y Y (Nat.le_of_ble_eq_true Y) (cell1_all Y) Y) ?_
  refine R_nil <| T_joinG id (t1 fun Bytes => ⟨[(2, .int .i64 to), (6, .ptr 0 1 0 0), (7, .ptr 1 1 0 0)], [some ⟨70, [[.nils, .bool false]]⟩, some ⟨70, [[.own 2 Bytes.length, .bool (decide (q3 = 1))]]⟩, some ⟨5, List.map R5 Bytes⟩]⟩) h (fun h => ?_) (fun j h => ?_)
  ·
   refine T_keep (kc 2 Y <| kc 6 Y <| kc 7 Y <| kn) Y <| Tr <| Rq Y (v_fieldP (ov Y) Y Y tF70_1) <| Rq Y (v_loadS (ov Y) Y Y Y tS4 Y) <| R_nil <| T_keep (kc 2 Y <| kc 6 Y <| kc 7 Y <| kc 25 Y <| kn) Y <| T_if h Y (fun b25 h => ?_) (fun b25 h => ?_)
   ·
    refine T_keep (kc 2 Y <| kc 6 Y <| kc 7 Y <| kn) Y <| T_reg <| Rq Y (v_fieldP (ov Y) Y Y tF70_0) <| Rq Y (v_loadS (ov Y) Y Y Y tS68 Y) ?_
    obtain ⟨x, h_x, h⟩ := bnd h
    refine Rq Y (v_ixOG (ov Y) (ov Y) tL68 Y Y h_x) ?_
    refine Rq Y (v_loadSR (ov Y) Y Y h_x tS5 Y) ?_
    refine Rq Y (v_and_ (ov Y) (ov Y)) ?_
    obtain ⟨x2, h_x2, h⟩ := bnd h
    refine Rq Y (v_ixOG (ov Y) (ov Y) tL68 Y Y h_x2) ?_
    refine Rx Y (w_storeR (u' := (band .u8 x 15)) (ov Y) (ov Y) (cells_scal tS5) Y Y h_x2 Y (cell1_all Y) Y) ?_
    refine R_nil ?_
    exact ⟨(l2.set (Int.toNat 0) (band .u8 x 15)), h, Ent.sel [some 0, some 2, some 1] (sd 2 Y Y <| sr 6 Y (.ptr _ _ _ Y) <| sr 7 Y (.ptr _ _ _ Y) <| sn) (.cons Y (ro1 (by exact tZ_70.symm) (rld Y)) <| .cons Y (ro1 (by exact tZ_70.symm) (rlc (ownE (Eq.symm ((List.length_set ..).trans Y)) Y) <| rlc (.dat Y) <| rln)) <| .cons Y (roM D5) <| .nil) Y Y⟩
   ·
    refine T_skip ?_
    exact ⟨l2, h, Ent.sel [some 0, some 2, some 1] (sd 2 Y Y <| sr 6 Y (.ptr _ _ _ Y) <| sr 7 Y (.ptr _ _ _ Y) <| sn) (.cons Y (ro1 (by exact tZ_70.symm) (rld Y)) <| .cons Y (ro1 (by exact tZ_70.symm) (rlc (.own _ Y) <| rlc (.dat Y) <| rln)) <| .cons Y (roM D5) <| .nil) Y Y⟩
  ·
   obtain ⟨Bytes, rfl⟩ : ∃ x, x = j := ⟨_, rfl⟩
   replace h := t1i h
   refine t1T ?_
   refine T_seq <| Tr <| Rq Y (v_move (ov Y)) ?_
   obtain ⟨q4, h_q4, h⟩ := bnd h
   refine Rq Y (v_remG (ov Y) (ov Y) h_q4) ?_
   refine Rq Y (v_eql (ov Y) (ov Y)) ?_
   refine R_nil <| T_keep (kc 6 Y <| kc 7 Y <| kc 34 Y <| kn) Y <| T_if h Y (fun b34 h => ?_) (fun b34 h => ?_)
   ·
    refine T_keep (kc 6 Y <| kc 7 Y <| kn) Y <| T_reg <| Rq Y (v_fieldP (ov Y) Y Y tF70_0) <| Rq Y (v_loadS (ov Y) Y Y Y tS68 Y) <| Rq Y (v_fieldP (ov Y) Y Y tF70_0) <| Rq Y (v_loadS (ov Y) Y Y Y tS68 Y) <| Rq Y (v_lenO (ov Y) Y Y tL68) <| Rq Y (v_sub (ov Y) (ov Y) Y) ?_
    obtain ⟨x3, h_x3, h⟩ := bnd h
    refine Rq Y (v_ixOG (ov Y) (ov Y) tL68 Y Y h_x3) ?_
    refine Rq Y (v_loadSR (ov Y) Y Y h_x3 tS5 Y) ?_
    refine Rq Y (v_and_ (ov Y) (ov Y)) ?_
    obtain ⟨x4, h_x4, h⟩ := bnd h
    refine Rq Y (v_ixOG (ov Y) (ov Y) tL68 Y Y h_x4) ?_
    refine Rx Y (w_storeR (u' := (band .u8 x3 240)) (ov Y) (ov Y) (cells_scal tS5) Y Y h_x4 Y (cell1_all Y) Y) ?_
    refine R_nil <| T_keep (kc 6 Y <| kc 7 Y <| kn) Y <| Tr <| Rq Y (v_loadA (ov Y) Y Y Y tA70 Y Y) <| Rx Y (w_store (ov Y) (ov Y) (cells_agg tA70 Y) Y Y Y (Nat.le_of_ble_eq_true Y) (cell1_all Y) Y) <| R_nil ?_
    obtain rfl := rt (v := (api_Piece.mk (Bytes.set (i64 ((Bytes.length : Int) - 1)).toNat (band .u8 x3 240)) (decide (q3 = 1)))) h
    refine T_ret (retq ?_ (.one (.agg Y Y Y Y tA70 Y Y (.cons (View.ownM Y ((List.length_set ..).trans Y) D5) <| .cons (Dat.view (.b Y)) <| .nil))))
    rfl
   ·
    refine T_skip <| T_keep (kc 6 Y <| kc 7 Y <| kn) Y <| Tr <| Rq Y (v_loadA (ov Y) Y Y Y tA70 Y Y) <| Rx Y (w_store (ov Y) (ov Y) (cells_agg tA70 Y) Y Y Y (Nat.le_of_ble_eq_true Y) (cell1_all Y) Y) <| R_nil ?_
    obtain rfl := rt (v := (api_Piece.mk Bytes (decide (q3 = 1)))) h
    refine T_ret (retq ?_ (.one (.agg Y Y Y Y tA70 Y Y (.cons (View.ownM Y Y D5) <| .cons (Dat.view (.b Y)) <| .nil))))
    rfl

theorem ok_ref4_OfHalves {l : List Int} {low : Bool} {r : api_Piece} (h : ref4_OfHalves l low = some r) :
  CSpec Tryz.prog gl0 37 [.sl 5 (List.map R5 l), .bool low] (.agg [.sl 5 (List.map R5 r.Bytes), .bool r.Half]) := by
 unfold ref4_OfHalves at h
 replace h := bnd0 h
 refine spec_of (by kernel_rfl) Tryz.func37 Y Y ?_
 intro w0 A
 refine Tr <| Rx Y (w_alloc (row := [_, _]) 0 Y tZ70 Y tZ_70) <| R_nil <| Tr <| Rq Y (v_move (ov Y)) <| Rq Y (v_move (ov Y)) <| Rq Y (.guarded (low == true) Y Y Y Y fun h => v_move (ov Y)) <| Rq Y (.guarded (low == true) Y Y Y Y fun h => v_len (slv_sl (ow Y h) tZ_5) tL68 (len_map _ _)) <| Rq Y (.guarded (low == true) Y Y Y Y fun h => v_gtr (ow Y h) (ov Y)) <| Rq Y (v_and (ov Y) (fun hp => ow Y (gT hp))) <| Rq Y (v_build (ys := [_, _]) tPL70 tHA70 tZ70 (.cons (cvs (ov Y) (cell1_b Y)) <| .nil) Y) <| Rx Y (w_alloc (row := [_, _]) 1 Y tZ70 Y tZ_70) <| Rx Y (w_store (ov Y) (ov Y) (cells_agg tA70 Y) Y Y Y (Nat.le_of_ble_eq_true Y) (cell1_all Y) Y) <| R_nil <| T_joinG id (t1 fun l2 => ⟨[(0, .sl 5 (List.map R5 l2)), (4, .ptr 0 1 0 0), (5, .ptr 1 1 0 0)], [some ⟨70, [[.nils, .bool false]]⟩, some ⟨70, [[.nils, .bool (low && (decide (0 < (l.length : Int))))]]⟩]⟩) h (fun h => ?_) (fun j h => ?_)
 ·
  refine T_keep (kc 0 Y <| kc 4 Y <| kc 5 Y <| kn) Y <| Tr <| Rq Y (v_fieldP (ov Y) Y Y tF70_1) <| Rq Y (v_loadS (ov Y) Y Y Y tS4 Y) <| R_nil <| T_keep (kc 0 Y <| kc 4 Y <| kc 5 Y <| kc 16 Y <| kn) Y <| T_if h Y (fun b16 h => ?_) (fun b16 h => ?_)
  ·
   refine T_keep (kc 0 Y <| kc 4 Y <| kc 5 Y <| kn) Y <| T_reg <| Rx Y (w_litG (r := 2) (xs := ([0] : List Int)) (f := R5) Y tL68 (.cons (cvs (ov Y) (cell1_b Y)) Y (.cons (.b Y) .nil) <| .nil) Y Y Y) <| Rq Y (v_move (ov Y)) ?_
   obtain ⟨l3, h_l3, h⟩ := bnd h
   refine Rx Y (w_appendZ (ov Y) (slv_sl (ov Y) tZ_5) tL68 Y Y (fun _ => cell1_all Y) Y h_l3) ?_
   refine Rq Y (v_assign (ov Y)) ?_
   refine R_nil ?_
   exact ⟨l3, h, Ent.sel [some 0, some 1] (sr 0 Y (frzM Y Y Y D5) <| sr 4 Y (.ptr _ _ _ Y) <| sr 5 Y (.ptr _ _ _ Y) <| sn) (.cons Y (ro1 (by exact tZ_70.symm) (rld Y)) <| .cons Y (ro1 (by exact tZ_70.symm) (rld Y)) <| .nil) Y Y⟩
  ·
   refine T_skip ?_
   exact ⟨l, h, Ent.sel [some 0, some 1] (sd 0 Y Y <| sr 4 Y (.ptr _ _ _ Y) <| sr 5 Y (.ptr _ _ _ Y) <| sn) (.cons Y (ro1 (by exact tZ_70.symm) (rld Y)) <| .cons Y (ro1 (by exact tZ_70.symm) (rld Y)) <| .nil) Y Y⟩
 ·
  obtain ⟨l2, rfl⟩ : ∃ x, x = j := ⟨_, rfl⟩
  replace h := t1i h
  refine t1T ?_
  refine T_joinG id (t1 fun Bytes => ⟨[(4, .ptr 0 1 0 0), (5, .ptr 1 1 0 0)], [some ⟨70, [[.nils, .bool false]]⟩, some ⟨70, [[.own 2 Bytes.length, .bool (low && (decide (0 < (l.length : Int))))]]⟩, some ⟨5, List.map R5 Bytes⟩]⟩) h (fun h => ?_) (fun j h => ?_)
  ·
   refine Tr <| Rq Y (v_assign (ov Y)) <| R_nil <| T_block ?_
   obtain ⟨r1, hl1, ho1⟩ := bndL h
   refine T_loopG _ (t2 fun Bytes2 i => ⟨[(0, .sl 5 (List.map R5 l2)), (4, .ptr 0 1 0 0), (5, .ptr 1 1 0 0), (6, .int .i64 i)], [some ⟨70, [[.nils, .bool false]]⟩, some ⟨70, [[.own 2 Bytes2.length, .bool (low && (decide (0 < (l.length : Int))))]]⟩, some ⟨5, List.map R5 Bytes2⟩]⟩) _ hl1 (Ent.sel [some 0, some 1, none] (sd 0 Y Y <| sr 4 Y (.ptr _ _ _ Y) <| sr 5 Y (.ptr _ _ _ Y) <| sd 6 Y Y <| sn) (.cons Y (ro1 (by exact tZ_70.symm) (rld Y)) <| .cons Y (ro1 (by exact tZ_70.symm) (rlc (.row Y) <| rlc (.dat Y) <| rln)) <| .row 5 <| .nil) Y Y) (fun n1 s1 h => ?_)
   obtain ⟨Bytes2, i⟩ := s1
   replace h := t2i h
   refine t2T ?_
   unfold ref4_OfHalves_L1 at h
   refine T_seq <| Tr <| Rq Y (v_move (ov Y)) <| Rq Y (v_move (ov Y)) <| Rq Y (v_len (slv_sl (ov Y) tZ_5) tL68 (len_map _ _)) <| Rq Y (v_lss (ov Y) (ov Y)) <| R_nil <| T_keep (kc 0 Y <| kc 4 Y <| kc 5 Y <| kc 6 Y <| kc 23 Y <| kn) Y <| T_if h Y (fun b23 h => ?_) (fun b23 h => ?_)
   ·
    refine T_skip <| T_seq <| T_block <| T_keep (kc 0 Y <| kc 4 Y <| kc 5 Y <| kc 6 Y <| kn) Y <| Tr <| Rq Y (v_move (ov Y)) <| Rq Y (v_move (ov Y)) ?_
    obtain ⟨x, h_x, h⟩ := bnd h
    refine Rq Y (v_ixSG (ov Y) (ov Y) tL68 h_x) ?_
    refine Rq Y (v_loadS_r (ov Y) tS5 Y) ?_
    refine Rq Y (v_mul (ov Y) (ov Y) Y) ?_
    refine Rq Y (v_assign (ov Y)) ?_
    refine R_nil <| T_joinG id (t1 fun b => ⟨[(0, .sl 5 (List.map R5 l2)), (4, .ptr 0 1 0 0), (5, .ptr 1 1 0 0), (6, .int .i64 i), (7, .int .u8 b)], [some ⟨70, [[.nils, .bool false]]⟩, some ⟨70, [[.own 2 Bytes2.length, .bool (low && (decide (0 < (l.length : Int))))]]⟩, some ⟨5, List.map R5 Bytes2⟩]⟩) h (fun h => ?_) (fun j h => ?_)
    ·
     refine T_keep (kc 0 Y <| kc 4 Y <| kc 5 Y <| kc 6 Y <| kc 7 Y <| kn) Y <| Tr <| Rq Y (v_move (ov Y)) <| Rq Y (v_add (ov Y) (ov Y) Y) <| Rq Y (v_move (ov Y)) <| Rq Y (v_len (slv_sl (ov Y) tZ_5) tL68 (len_map _ _)) <| Rq Y (v_lss (ov Y) (ov Y)) <| R_nil <| T_keep (kc 0 Y <| kc 4 Y <| kc 5 Y <| kc 6 Y <| kc 7 Y <| kc 35 Y <| kn) Y <| T_if h Y (fun b35 h => ?_) (fun b35 h => ?_)
     ·
      refine T_keep (kc 0 Y <| kc 4 Y <| kc 5 Y <| kc 6 Y <| kc 7 Y <| kn) Y <| T_reg <| Rq Y (v_move (ov Y)) <| Rq Y (v_move (ov Y)) <| Rq Y (v_move (ov Y)) <| Rq Y (v_add (ov Y) (ov Y) Y) ?_
      obtain ⟨x2, h_x2, h⟩ := bnd h
      refine Rq Y (v_ixSG (ov Y) (ov Y) tL68 h_x2) ?_
      refine Rq Y (v_loadS_r (ov Y) tS5 Y) ?_
      refine Rq Y (v_add (ov Y) (ov Y) Y) ?_
      refine Rq Y (v_assign (ov Y)) ?_
      refine R_nil ?_
      exact ⟨(u8 ((u8 (16 * x)) + x2)), h, Ent.sel [some 0, some 1, some 2] (sd 0 Y Y <| sr 4 Y (.ptr _ _ _ Y) <| sr 5 Y (.ptr _ _ _ Y) <| sd 6 Y Y <| sd 7 Y Y <| sn) (.cons Y (ro1 (by exact tZ_70.symm) (rld Y)) <| .cons Y (ro1 (by exact tZ_70.symm) (rlc (.own _ Y) <| rlc (.dat Y) <| rln)) <| .cons Y (roM D5) <| .nil) Y Y⟩
     ·
      refine T_skip ?_
      exact ⟨(u8 (16 * x)), h, Ent.sel [some 0, some 1, some 2] (sd 0 Y Y <| sr 4 Y (.ptr _ _ _ Y) <| sr 5 Y (.ptr _ _ _ Y) <| sd 6 Y Y <| sd 7 Y Y <| sn) (.cons Y (ro1 (by exact tZ_70.symm) (rld Y)) <| .cons Y (ro1 (by exact tZ_70.symm) (rlc (.own _ Y) <| rlc (.dat Y) <| rln)) <| .cons Y (roM D5) <| .nil) Y Y⟩
    ·
     obtain ⟨b, rfl⟩ : ∃ x, x = j := ⟨_, rfl⟩
     replace h := t1i h
     refine t1T ?_
     refine T_reg <| Rq Y (v_fieldP (ov Y) Y Y tF70_0) <| Rq Y (v_loadS (ov Y) Y Y Y tS68 Y) <| Rq Y (v_move (ov Y)) <| R_q (.sl 5 (List.map R5 ([b] : List Int))) Y (v_lit tL68 (.cons (cvs (ov Y) (cell1_b Y)) Y (.cons (.b Y) .nil) <| .nil) Y Y) ?_
     obtain ⟨l4, h_l4, h⟩ := bnd h
     refine Rx Y (w_appendG (ov Y) (slv_sl (ov Y) tZ_5) tL68 Y Y Y (fun _ => cell1_all Y) Y h_l4) ?_
     refine Rq Y (v_fieldP (ov Y) Y Y tF70_0) ?_
     refine Rx Y (w_store (ov Y) (ov Y) (cells_scal tS68) Y Y Y (Nat.le_of_ble_eq_true Y) (cell1_all Y) Y) ?_
     refine R_nil <| T_keep (kc 0 Y <| kc 4 Y <| kc 5 Y <| kc 6 Y <| kn) Y <| T_reg <| Rq Y (v_move (ov Y)) <| Rq Y (v_add (ov Y) (ov Y) Y) <| Rq Y (v_assign (ov Y)) <| R_nil ?_
     exact ⟨(l4, (i64 (i + 2))), h, Ent.sel [some 0, some 1, some 2] (sd 0 Y Y <| sr 4 Y (.ptr _ _ _ Y) <| sr 5 Y (.ptr _ _ _ Y) <| sd 6 Y Y <| sn) (.cons Y (ro1 (by exact tZ_70.symm) (rld Y)) <| .cons Y (ro1 (by exact tZ_70.symm) (rlc (.own _ Y) <| rlc (.dat Y) <| rln)) <| .cons Y (roM D5) <| .nil) Y Y⟩
   ·
    refine T_exit ?_
    rw [lx h] at ho1
    replace h := ho1
    exact ⟨Bytes2, h, Ent.sel [some 0, some 1, some 2] (sr 4 Y (.ptr _ _ _ Y) <| sr 5 Y (.ptr _ _ _ Y) <| sn) (.cons Y (ro1 (by exact tZ_70.symm) (rld Y)) <| .cons Y (ro1 (by exact tZ_70.symm) (rlc (.own _ Y) <| rlc (.dat Y) <| rln)) <| .cons Y (roM D5) <| .nil) Y Y⟩
  ·
   obtain ⟨Bytes, rfl⟩ : ∃ x, x = j := ⟨_, rfl⟩
   replace h := t1i h
   refine t1T ?_
   refine Tr <| Rq Y (v_loadA (ov Y) Y Y Y tA70 Y Y) <| Rx Y (w_store (ov Y) (ov Y) (cells_agg tA70 Y) Y Y Y (Nat.le_of_ble_eq_true Y) (cell1_all Y) Y) <| R_nil ?_
   obtain rfl := rt (v := (api_Piece.mk Bytes (low && (decide (0 < (l.length : Int)))))) h
   refine T_ret (retq ?_ (.one (.agg Y Y Y Y tA70 Y Y (.cons (View.ownM Y Y D5) <| .cons (Dat.view (.b Y)) <| .nil))))
   rfl

theorem ok_bytes_Equal {a : List Int} {b : List Int} {r : Bool} (h : bytes_Equal a b = some r) :
  CSpec Tryz.prog gl0 116 [.sl 5 (List.map R5 a), .sl 5 (List.map R5 b)] (.bool r) := by
 unfold bytes_Equal at h
 replace h := bnd0 h
 refine spec_of (by kernel_rfl) Tryz.func116 Y Y ?_
 intro w0 A
 refine Tr <| Rq Y (v_assign (ov Y)) <| R_nil <| Tr <| Rq Y (v_move (ov Y)) <| Rq Y (v_strOf (f := R5) (slv_sl (ov Y) tZ_5) (fun _ => Y) tL68 tStr9 tU85) <| Rq Y (v_move (ov Y)) <| Rq Y (v_strOf (f := R5) (slv_sl (ov Y) tZ_5) (fun _ => Y) tL68 tStr9 tU85) <| Rq Y (v_eqlStr (ov Y) (ov Y)) <| Rq Y (v_assign (ov Y)) <| R_nil ?_
 obtain rfl := rt (v := (decide ((ofBytes a) = (ofBytes b)))) h
 refine T_ret (retq ?_ (.one (.tmp Y (Dat.view (.b Y)))))
 rfl

theorem ok_law4_samePiece {a : api_Piece} {b : api_Piece} {r : Bool} (h : law4_samePiece a b = some r) :
  CSpec Tryz.prog gl0 51 [.agg [.sl 5 (List.map R5 a.Bytes), .bool a.Half], .agg [.sl 5 (List.map R5 b.Bytes), .bool b.Half]] (.bool r) := by
 unfold law4_samePiece at h
 replace h := bnd0 h
 refine spec_of (by kernel_rfl) Tryz.func51 Y Y ?_
 intro w0 A
 refine Tr <| Rq Y (v_boxD (cva (ov Y)) Y tZ_70 Y) <| Rq Y (v_boxD (cva (ov Y)) Y tZ_70 Y) <| Rq Y (v_assign (ov Y)) <| R_nil <| T_keep (kc 2 Y <| kc 3 Y <| kc 4 Y <| kn) Y <| Tr <| Rq Y (v_fieldR (ov Y) tF70_1) <| Rq Y (v_loadS_r (ov Y) tS4 Y) <| Rq Y (v_fieldR (ov Y) tF70_1) <| Rq Y (v_loadS_r (ov Y) tS4 Y) <| Rq Y (tBool_eq .eql (by simp) (ov Y) (ov Y) tB4) <| Rq Y (v_move (ov Y)) <| Rq Y (.guarded ((a.Half == b.Half) == true) Y Y Y Y fun h => v_fieldR (ov Y) tF70_0) <| Rq Y (.guarded ((a.Half == b.Half) == true) Y Y Y Y fun h => v_loadS_r (ow Y h) tS68 Y) <| Rq Y (.guarded ((a.Half == b.Half) == true) Y Y Y Y fun h => v_fieldR (ov Y) tF70_0) <| Rq Y (.guarded ((a.Half == b.Half) == true) Y Y Y Y fun h => v_loadS_r (ow Y h) tS68 Y) ?_
 obtain ⟨y, h_y, h⟩ := bnd h
 refine Rq Y (.guarded ((a.Half == b.Half) == true) Y Y Y Y fun h => v_call (ok_bytes_Equal (gdT h_y h)) (.cons (ow Y h) (.b Y) <| .cons (ow Y h) (.b Y) <| .nil)) ?_
 refine Rq Y (v_and (ov Y) (fun hp => ow Y (gT hp))) ?_
 refine Rq Y (v_assign (ov Y)) ?_
 refine R_nil ?_
 obtain rfl := rt (v := ((a.Half == b.Half) && y)) h
 refine T_ret (retq ?_ (.one (.tmp Y (Dat.view (.b Y)))))
 rfl

theorem ok_ref1_odd {n : Int} {r : Bool} (h : ref1_odd n = some r) :
  CSpec Tryz.prog gl0 194 [.int .i64 n] (.bool r) := by
 unfold ref1_odd at h
 replace h := bnd0 h
 refine spec_of (by kernel_rfl) Tryz.func194 Y Y ?_
 intro w0 A
 refine Tr <| Rq Y (v_assign (ov Y)) <| R_nil <| T_keep (kc 0 Y <| kn) Y <| Tr <| Rq Y (v_assign (ov Y)) <| R_nil <| T_joinG id (t1 fun ones => ⟨[(3, .int .i64 ones)], []⟩) h (fun h => ?_) (fun j h => ?_)
 ·
  refine T_block ?_
  obtain ⟨r1, hl1, ho1⟩ := bndL h
  refine T_loopG _ (t2 fun n2 ones2 => ⟨[(0, .int .i64 n2), (3, .int .i64 ones2)], []⟩) _ hl1 (Ent.sel [] (sd 0 Y Y <| sd 3 Y Y <| sn) (.nil) Y Y) (fun n1 s1 h => ?_)
  obtain ⟨n2, ones2⟩ := s1
  replace h := t2i h
  refine t2T ?_
  unfold ref1_odd_L1 at h
  refine T_seq <| Tr <| Rq Y (v_move (ov Y)) <| Rq Y (v_gtr (ov Y) (ov Y)) <| R_nil <| T_keep (kc 0 Y <| kc 3 Y <| kc 5 Y <| kn) Y <| T_if h Y (fun b5 h => ?_) (fun b5 h => ?_)
  ·
   refine T_skip <| T_seq <| T_block <| T_keep (kc 0 Y <| kc 3 Y <| kn) Y <| T_reg <| Rq Y (v_move (ov Y)) <| Rq Y (v_move (ov Y)) ?_
   obtain ⟨q, h_q, h⟩ := bnd h
   refine Rq Y (v_remG (ov Y) (ov Y) h_q) ?_
   refine Rq Y (v_add (ov Y) (ov Y) Y) ?_
   refine Rq Y (v_assign (ov Y)) ?_
   refine R_nil <| T_keep (kc 0 Y <| kc 3 Y <| kn) Y <| T_reg <| Rq Y (v_move (ov Y)) ?_
   obtain ⟨q2, h_q2, h⟩ := bnd h
   refine Rq Y (v_quoG (ov Y) (ov Y) h_q2) ?_
   refine Rq Y (v_assign (ov Y)) ?_
   refine R_nil ?_
   exact ⟨(q2, (i64 (ones2 + q))), h, Ent.sel [] (sd 0 Y Y <| sd 3 Y Y <| sn) (.nil) Y Y⟩
  ·
   refine T_exit ?_
   rw [lx h] at ho1
   replace h := ho1
   exact ⟨ones2, h, Ent.sel [] (sd 3 Y Y <| sn) (.nil) Y Y⟩
 ·
  obtain ⟨ones, rfl⟩ : ∃ x, x = j := ⟨_, rfl⟩
  replace h := t1i h
  refine t1T ?_
  refine Tr <| Rq Y (v_move (ov Y)) ?_
  obtain ⟨q3, h_q3, h⟩ := bnd h
  refine Rq Y (v_remG (ov Y) (ov Y) h_q3) ?_
  refine Rq Y (v_eql (ov Y) (ov Y)) ?_
  refine Rq Y (v_assign (ov Y)) ?_
  refine R_nil ?_
  obtain rfl := rt (v := (decide (q3 = 1))) h
  refine T_ret (retq ?_ (.one (.tmp Y (Dat.view (.b Y)))))
  rfl

theorem ok_ref1_word {data : Int} {r : Int} (h : ref1_word data = some r) :
  CSpec Tryz.prog gl0 248 [.int .i64 data] (.int .i64 r) := by
 unfold ref1_word at h
 replace h := bnd0 h
 refine spec_of (by kernel_rfl) Tryz.func248 Y Y ?_
 intro w0 A
 refine Tr <| Rq Y (v_assign (ov Y)) <| R_nil <| T_seq <| T_keep (kc 0 Y <| kn) Y <| Tr <| Rq Y (v_move (ov Y)) ?_
 obtain ⟨y, h_y, h⟩ := bnd h
 refine Rq Y (v_call (ok_ref1_odd h_y) (.cons (ov Y) (.b Y) <| .nil)) ?_
 refine R_nil <| T_keep (kc 0 Y <| kc 4 Y <| kn) Y <| T_if h Y (fun b4 h => ?_) (fun b4 h => ?_)
 ·
  refine T_keep (kc 0 Y <| kn) Y <| Tr <| Rq Y (v_move (ov Y)) <| Rq Y (v_assign (ov Y)) <| R_nil ?_
  obtain rfl := rt (v := data) h
  refine T_ret (retq ?_ (.one (.tmp Y (Dat.view (.b Y)))))
  rfl
 ·
  refine T_skip <| T_keep (kc 0 Y <| kn) Y <| Tr <| Rq Y (v_move (ov Y)) <| Rq Y (v_add (ov Y) (ov Y) Y) <| Rq Y (v_assign (ov Y)) <| R_nil ?_
  obtain rfl := rt (v := (i64 (data + 2048))) h
  refine T_ret (retq ?_ (.one (.tmp Y (Dat.view (.b Y)))))
  rfl

theorem ok_ref1_numberOf {f : Vector Int 64} {r : Int} (h : ref1_numberOf f = some r) :
  CSpec Tryz.prog gl0 193 [.agg (List.map C47 f.toList)] (.int .i64 r) := by
 unfold ref1_numberOf at h
 replace h := bnd0 h
 refine spec_of (by kernel_rfl) Tryz.func193 Y Y ?_
 intro w0 A
 refine Tr <| Rq Y (v_boxD (cva (ov Y)) arL tZ_49 (arD fun _ => Y)) <| Rq Y (v_assign (ov Y)) <| R_nil <| T_keep (kc 1 Y <| kc 2 Y <| kn) Y <| Tr ?_
 obtain ⟨x, h_x, h⟩ := bnd h
 refine Rq Y (v_ixRG (ov Y) (ov Y) tR49 h_x) ?_
 refine Rq Y (v_loadS_r (ov Y) tS47 (at_get (at_at (o := 0) (o' := ((Int.toNat 1) * 1)) (at_all arL) (at_v1 h_x)))) ?_
 refine Rq Y (v_conv (ov Y) tI47 tI3 Y) ?_
 obtain ⟨q, h_q, h⟩ := bnd h
 refine Rq Y (v_remG (ov Y) (ov Y) h_q) ?_
 obtain ⟨x2, h_x2, h⟩ := bnd h
 refine Rq Y (v_ixRG (ov Y) (ov Y) tR49 h_x2) ?_
 refine Rq Y (v_loadS_r (ov Y) tS47 (at_get (at_at (o := 0) (o' := ((Int.toNat 2) * 1)) (at_all arL) (at_v1 h_x2)))) ?_
 refine Rq Y (v_conv (ov Y) tI47 tI3 Y) ?_
 obtain ⟨q2, h_q2, h⟩ := bnd h
 refine Rq Y (v_remG (ov Y) (ov Y) h_q2) ?_
 refine Rq Y (v_mul (ov Y) (ov Y) Y) ?_
 refine Rq Y (v_add (ov Y) (ov Y) Y) ?_
 refine Rq Y (v_assign (ov Y)) ?_
 refine R_nil ?_
 obtain rfl := rt (v := (i64 (q + (i64 (q2 * 2048))))) h
 refine T_ret (retq ?_ (.one (.tmp Y (Dat.view (.b Y)))))
 rfl

theorem ok_ref1_syncOf {number : Int} {r : Int} (h : ref1_syncOf number = some r) :
  CSpec Tryz.prog gl0 192 [.int .i64 number] (.int .i64 r) := by
 unfold ref1_syncOf at h
 replace h := bnd0 h
 refine spec_of (by kernel_rfl) Tryz.func192 Y Y ?_
 intro w0 A
 refine Tr <| Rq Y (v_assign (ov Y)) <| R_nil <| Tr <| R_q (.agg (List.map C3 (#v[583, 1464, 2631, 3512] : Vector Int 4).toList)) Y (v_buildA (ys := [_, _, _, _]) tR280 tZ280 (.cons (cvs (ov Y) (cell1_b Y)) <| .cons (cvs (ov Y) (cell1_b Y)) <| .cons (cvs (ov Y) (cell1_b Y)) <| .cons (cvs (ov Y) (cell1_b Y)) <| .nil) Y) <| Rq Y (v_move (ov Y)) ?_
 obtain ⟨q, h_q, h⟩ := bnd h
 refine Rq Y (v_remG (ov Y) (ov Y) h_q) ?_
 obtain ⟨x, h_x, h⟩ := bnd h
 refine Rq Y (v_indexVG (ov Y) (ov Y) tR280 tS3 h_x) ?_
 refine Rq Y (v_assign (ov Y)) ?_
 refine R_nil ?_
 obtain rfl := rt (v := x) h
 refine T_ret (retq ?_ (.one (.tmp Y (Dat.view (.b Y)))))
 rfl

theorem ok_ref1_sum {f : Vector Int 64} {r : Int} (h : ref1_sum f = some r) :
  CSpec Tryz.prog gl0 195 [.agg (List.map C47 f.toList)] (.int .i64 r) := by
 unfold ref1_sum at h
 replace h := bnd0 h
 refine spec_of (by kernel_rfl) Tryz.func195 Y Y ?_
 intro w0 A
 refine Tr <| Rq Y (v_boxD (cva (ov Y)) arL tZ_49 (arD fun _ => Y)) <| Rq Y (v_assign (ov Y)) <| R_nil <| T_keep (kc 1 Y <| kn) Y <| Tr <| Rq Y (v_assign (ov Y)) <| R_nil <| T_joinG id (t1 fun x => ⟨[(3, .int .i64 x)], []⟩) h (fun h => ?_) (fun j h => ?_)
 ·
  refine Tr <| Rq Y (v_assign (ov Y)) <| R_nil <| T_block ?_
  obtain ⟨r1, hl1, ho1⟩ := bndL h
  refine T_loopG _ (t2 fun x2 i => ⟨[(1, .rp (List.map C47 f.toList) 0), (3, .int .i64 x2), (4, .int .i64 i)], []⟩) _ hl1 (Ent.sel [] (sd 1 Y Y <| sd 3 Y Y <| sd 4 Y Y <| sn) (.nil) Y Y) (fun n1 s1 h => ?_)
  obtain ⟨x2, i⟩ := s1
  replace h := t2i h
  refine t2T ?_
  unfold ref1_sum_L1 at h
  refine T_seq <| Tr <| Rq Y (v_move (ov Y)) <| Rq Y (v_leq (ov Y) (ov Y)) <| R_nil <| T_keep (kc 1 Y <| kc 3 Y <| kc 4 Y <| kc 6 Y <| kn) Y <| T_if h Y (fun b6 h => ?_) (fun b6 h => ?_)
  ·
   refine T_skip <| T_seq <| T_block <| T_keep (kc 1 Y <| kc 3 Y <| kc 4 Y <| kn) Y <| T_reg <| Rq Y (v_move (ov Y)) <| Rq Y (v_move (ov Y)) ?_
   obtain ⟨x3, h_x3, h⟩ := bnd h
   refine Rq Y (v_ixRG (ov Y) (ov Y) tR49 h_x3) ?_
   refine Rq Y (v_loadS_r (ov Y) tS47 (at_get (at_at (o := 0) (o' := (i.toNat * 1)) (at_all arL) (at_v1 h_x3)))) ?_
   refine Rq Y (v_conv (ov Y) tI47 tI3 Y) ?_
   obtain ⟨q, h_q, h⟩ := bnd h
   refine Rq Y (v_remG (ov Y) (ov Y) h_q) ?_
   refine Rq Y (v_xor_ (ov Y) (ov Y)) ?_
   refine Rq Y (v_assign (ov Y)) ?_
   refine R_nil <| T_keep (kc 1 Y <| kc 3 Y <| kc 4 Y <| kn) Y <| T_reg <| Rq Y (v_move (ov Y)) <| Rq Y (v_add (ov Y) (ov Y) Y) <| Rq Y (v_assign (ov Y)) <| R_nil ?_
   exact ⟨((bxor .i64 x2 q), (i64 (i + 1))), h, Ent.sel [] (sd 1 Y Y <| sd 3 Y Y <| sd 4 Y Y <| sn) (.nil) Y Y⟩
  ·
   refine T_exit ?_
   rw [lx h] at ho1
   replace h := ho1
   exact ⟨x2, h, Ent.sel [] (sd 3 Y Y <| sn) (.nil) Y Y⟩
 ·
  obtain ⟨x, rfl⟩ : ∃ x, x = j := ⟨_, rfl⟩
  replace h := t1i h
  refine t1T ?_
  refine Tr <| Rq Y (v_move (ov Y)) <| Rq Y (v_assign (ov Y)) <| R_nil ?_
  obtain rfl := rt (v := x) h
  refine T_ret (retq ?_ (.one (.tmp Y (Dat.view (.b Y)))))
  rfl

theorem ok_ref1_check {f : Vector Int 64} {r : Int} (h : ref1_check f = some r) :
  CSpec Tryz.prog gl0 196 [.agg (List.map C47 f.toList)] (.int .i64 r) := by
 unfold ref1_check at h
 replace h := bnd0 h
 refine spec_of (by kernel_rfl) Tryz.func196 Y Y ?_
 intro w0 A
 refine Tr <| Rq Y (v_boxD (cva (ov Y)) arL tZ_49 (arD fun _ => Y)) <| Rq Y (v_assign (ov Y)) <| R_nil <| T_keep (kc 1 Y <| kn) Y <| Tr <| Rq Y (v_assign (ov Y)) <| R_nil <| T_joinG id (t1 fun rest => ⟨[(3, .int .i64 rest)], []⟩) h (fun h => ?_) (fun j h => ?_)
 ·
  refine Tr <| Rq Y (v_assign (ov Y)) <| R_nil <| T_block ?_
  obtain ⟨r1, hl1, ho1⟩ := bndL h
  refine T_loopG _ (t2 fun rest2 i => ⟨[(1, .rp (List.map C47 f.toList) 0), (3, .int .i64 rest2), (4, .int .i64 i)], []⟩) _ hl1 (Ent.sel [] (sd 1 Y Y <| sd 3 Y Y <| sd 4 Y Y <| sn) (.nil) Y Y) (fun n1 s1 h => ?_)
  obtain ⟨rest2, i⟩ := s1
  replace h := t2i h
  refine t2T ?_
  unfold ref1_check_L1 at h
  refine T_seq <| Tr <| Rq Y (v_move (ov Y)) <| Rq Y (v_lss (ov Y) (ov Y)) <| R_nil <| T_keep (kc 1 Y <| kc 3 Y <| kc 4 Y <| kc 7 Y <| kn) Y <| T_if h Y (fun b7 h => ?_) (fun b7 h => ?_)
  ·
   refine T_skip <| T_seq <| T_block <| T_keep (kc 1 Y <| kc 3 Y <| kc 4 Y <| kn) Y <| Tr <| Rq Y (v_assign (ov Y)) <| R_nil <| T_joinG id (t1 fun bit => ⟨[(1, .rp (List.map C47 f.toList) 0), (3, .int .i64 rest2), (4, .int .i64 i), (5, .int .i64 bit)], []⟩) h (fun h => ?_) (fun j h => ?_)
   ·
    refine Tr <| Rq Y (v_move (ov Y)) <| Rq Y (v_lss (ov Y) (ov Y)) <| R_nil <| T_keep (kc 1 Y <| kc 3 Y <| kc 4 Y <| kc 5 Y <| kc 11 Y <| kn) Y <| T_if h Y (fun b11 h => ?_) (fun b11 h => ?_)
    ·
     refine T_keep (kc 1 Y <| kc 3 Y <| kc 4 Y <| kc 5 Y <| kn) Y <| T_reg <| Rq Y (v_move (ov Y)) ?_
     obtain ⟨q, h_q, h⟩ := bnd h
     refine Rq Y (v_quoG (ov Y) (ov Y) h_q) ?_
     obtain ⟨x, h_x, h⟩ := bnd h
     refine Rq Y (v_ixRG (ov Y) (ov Y) tR49 h_x) ?_
     refine Rq Y (v_loadS_r (ov Y) tS47 (at_get (at_at (o := 0) (o' := (q.toNat * 1)) (at_all arL) (at_v1 h_x)))) ?_
     refine Rq Y (v_conv (ov Y) tI47 tI3 Y) ?_
     refine Rq Y (v_move (ov Y)) ?_
     obtain ⟨q2, h_q2, h⟩ := bnd h
     refine Rq Y (v_remG (ov Y) (ov Y) h_q2) ?_
     refine Rq Y (v_sub (ov Y) (ov Y) Y) ?_
     obtain ⟨q3, h_q3, h⟩ := bnd h
     refine Rq Y (v_shrG (ov Y) (ov Y) h_q3) ?_
     refine Rq Y (v_and_ (ov Y) (ov Y)) ?_
     refine Rq Y (v_assign (ov Y)) ?_
     refine R_nil ?_
     exact ⟨(band .i64 q3 1), h, Ent.sel [] (sd 1 Y Y <| sd 3 Y Y <| sd 4 Y Y <| sd 5 Y Y <| sn) (.nil) Y Y⟩
    ·
     refine T_skip ?_
     exact ⟨0, h, Ent.sel [] (sd 1 Y Y <| sd 3 Y Y <| sd 4 Y Y <| sd 5 Y Y <| sn) (.nil) Y Y⟩
   ·
    obtain ⟨bit, rfl⟩ : ∃ x, x = j := ⟨_, rfl⟩
    replace h := t1i h
    refine t1T ?_
    refine Tr <| Rq Y (v_move (ov Y)) <| Rq Y (v_mul (ov Y) (ov Y) Y) <| Rq Y (v_move (ov Y)) <| Rq Y (v_add (ov Y) (ov Y) Y) <| Rq Y (v_assign (ov Y)) <| R_nil <| T_keep (kc 1 Y <| kc 3 Y <| kc 4 Y <| kn) Y <| Tr <| Rq Y (v_move (ov Y)) <| Rq Y (v_geq (ov Y) (ov Y)) <| R_nil <| T_keep (kc 1 Y <| kc 3 Y <| kc 4 Y <| kc 27 Y <| kn) Y <| T_if h Y (fun b27 h => ?_) (fun b27 h => ?_)
    ·
     refine T_keep (kc 1 Y <| kc 3 Y <| kc 4 Y <| kn) Y <| T_reg <| Rq Y (v_move (ov Y)) <| Rq Y (v_xor_ (ov Y) (ov Y)) <| Rq Y (v_assign (ov Y)) <| R_nil <| T_keep (kc 1 Y <| kc 3 Y <| kc 4 Y <| kn) Y <| T_reg <| Rq Y (v_move (ov Y)) <| Rq Y (v_add (ov Y) (ov Y) Y) <| Rq Y (v_assign (ov Y)) <| R_nil ?_
     exact ⟨((bxor .i64 (i64 ((i64 (rest2 * 2)) + bit)) 6291471), (i64 (i + 1))), h, Ent.sel [] (sd 1 Y Y <| sd 3 Y Y <| sd 4 Y Y <| sn) (.nil) Y Y⟩
    ·
     refine T_skip <| T_keep (kc 1 Y <| kc 3 Y <| kc 4 Y <| kn) Y <| T_reg <| Rq Y (v_move (ov Y)) <| Rq Y (v_add (ov Y) (ov Y) Y) <| Rq Y (v_assign (ov Y)) <| R_nil ?_
     exact ⟨((i64 ((i64 (rest2 * 2)) + bit)), (i64 (i + 1))), h, Ent.sel [] (sd 1 Y Y <| sd 3 Y Y <| sd 4 Y Y <| sn) (.nil) Y Y⟩
  ·
   refine T_exit ?_
   rw [lx h] at ho1
   replace h := ho1
   exact ⟨rest2, h, Ent.sel [] (sd 3 Y Y <| sn) (.nil) Y Y⟩
 ·
  obtain ⟨rest, rfl⟩ : ∃ x, x = j := ⟨_, rfl⟩
  replace h := t1i h
  refine t1T ?_
  refine Tr <| Rq Y (v_move (ov Y)) <| Rq Y (v_assign (ov Y)) <| R_nil ?_
  obtain rfl := rt (v := rest) h
  refine T_ret (retq ?_ (.one (.tmp Y (Dat.view (.b Y)))))
  rfl

theorem ok_ref1_checked {f : Vector Int 64} {r : (Vector Int 64)} (h : ref1_checked f = some r) :
  CSpec Tryz.prog gl0 249 [.agg (List.map C47 f.toList)] (.agg (List.map C47 r.toList)) := by
 unfold ref1_checked at h
 replace h := bnd0 h
 refine spec_of (by kernel_rfl) Tryz.func249 Y Y ?_
 intro w0 A
 refine Tr <| Rx Y (w_box 0 Y (ov Y) tA49 arL) <| Rx Y (w_alloc (row := (List.map C47 (Vector.replicate 64 0).toList)) 1 Y tZ49 Y tZ_49) <| R_nil <| T_keep (kc 1 Y <| kc 2 Y <| kn) Y <| Tr <| Rq Y (v_loadA (ov Y) Y Y Y tA49 (at_sub (at_all arL)) arL (hns := (nsM fun _ => Y))) ?_
 obtain ⟨y, h_y, h⟩ := bnd h
 refine Rq Y (v_call (ok_ref1_check h_y) (.cons (ov Y) (.aggB (arD fun _ => Y)) <| .nil)) ?_
 refine Rq Y (v_assign (ov Y)) ?_
 refine R_nil <| T_keep (kc 1 Y <| kc 2 Y <| kc 3 Y <| kn) Y <| Tr <| Rq Y (v_move (ov Y)) ?_
 obtain ⟨q, h_q, h⟩ := bnd h
 refine Rq Y (v_quoG (ov Y) (ov Y) h_q) ?_
 obtain ⟨y2, h_y2, h⟩ := bnd h
 refine Rq Y (v_call (ok_ref1_word h_y2) (.cons (ov Y) (.b Y) <| .nil)) ?_
 refine Rq Y (v_conv (ov Y) tI3 tI47 Y) ?_
 refine Rq Y (v_move (ov Y)) ?_
 obtain ⟨q2, h_q2, h⟩ := bnd h
 refine Rq Y (v_remG (ov Y) (ov Y) h_q2) ?_
 obtain ⟨y3, h_y3, h⟩ := bnd h
 refine Rq Y (v_call (ok_ref1_word h_y3) (.cons (ov Y) (.b Y) <| .nil)) ?_
 refine Rq Y (v_conv (ov Y) tI3 tI47 Y) ?_
 obtain ⟨x, h_x, h⟩ := bnd h
 refine Rq Y (v_ixAG (ov Y) (ov Y) tR49 Y Y h_x) ?_
 refine Rx Y (w_store (ov Y) (ov Y) (cells_scal tS47) Y Y Y (arB h_x) (cell1_all Y) (arS h_x)) ?_
 obtain ⟨x2, h_x2, h⟩ := bnd h
 refine Rq Y (v_ixAG (ov Y) (ov Y) tR49 Y Y h_x2) ?_
 refine Rx Y (w_store (ov Y) (ov Y) (cells_scal tS47) Y Y Y (arB h_x2) (cell1_all Y) (arS h_x2)) ?_
 refine R_nil <| T_keep (kc 1 Y <| kc 2 Y <| kn) Y <| Tr <| Rq Y (v_loadA (ov Y) Y Y Y tA49 (at_sub (at_all arL)) arL (hns := (nsM fun _ => Y))) <| Rx Y (w_store (ov Y) (ov Y) (cells_agg tA49 arL) Y Y Y (put_le (at_all arL) arL) (cell1_all (arC fun _ => Y)) (put_all (Eq.trans arL (Eq.symm arL)))) <| R_nil ?_
 obtain rfl := rt (v := (vset (vset f 62 (u16 y2)) 63 (u16 y3))) h
 refine T_ret (retq ?_ (.one (.agg Y Y Y Y tA49 (at_sub (at_all arL)) arL (pwB (arD fun _ => Y)) (hns := (nsM fun _ => Y)))))
 rfl

theorem ok_ref1_sealed {f : Vector Int 64} {r : (Vector Int 64)} (h : ref1_sealed f = some r) :
  CSpec Tryz.prog gl0 190 [.agg (List.map C47 f.toList)] (.agg (List.map C47 r.toList)) := by
 unfold ref1_sealed at h
 replace h := bnd0 h
 refine spec_of (by kernel_rfl) Tryz.func190 Y Y ?_
 intro w0 A
 refine Tr <| Rx Y (w_box 0 Y (ov Y) tA49 arL) <| Rx Y (w_alloc (row := (List.map C47 (Vector.replicate 64 0).toList)) 1 Y tZ49 Y tZ_49) <| R_nil <| T_joinG id (t1 fun f2 => ⟨[(1, .ptr 0 1 0 0), (2, .ptr 1 1 0 0)], [some ⟨49, [(List.map C47 f2.toList)]⟩, some ⟨49, [(List.map C47 (Vector.replicate 64 0).toList)]⟩]⟩) h (fun h => ?_) (fun j h => ?_)
 ·
  refine T_keep (kc 1 Y <| kc 2 Y <| kn) Y <| Tr <| Rq Y (v_assign (ov Y)) <| R_nil <| T_block ?_
  obtain ⟨r1, hl1, ho1⟩ := bndL h
  refine T_loopG _ (t2 fun f3 i => ⟨[(1, .ptr 0 1 0 0), (2, .ptr 1 1 0 0), (3, .int .i64 i)], [some ⟨49, [(List.map C47 f3.toList)]⟩, some ⟨49, [(List.map C47 (Vector.replicate 64 0).toList)]⟩]⟩) _ hl1 (Ent.sel [some 0, some 1] (sr 1 Y (.ptr _ _ _ Y) <| sr 2 Y (.ptr _ _ _ Y) <| sd 3 Y Y <| sn) (.cons Y (ro1 (by exact Eq.trans (b := 64) arL tZ_49.symm) (rld (arD fun _ => Y))) <| .cons Y (ro1 (by exact Eq.trans (b := 64) arL tZ_49.symm) (rld (arD fun _ => Y))) <| .nil) Y Y) (fun n1 s1 h => ?_)
  obtain ⟨f3, i⟩ := s1
  replace h := t2i h
  refine t2T ?_
  unfold ref1_sealed_L1 at h
  refine T_seq <| Tr <| Rq Y (v_move (ov Y)) <| Rq Y (v_leq (ov Y) (ov Y)) <| R_nil <| T_keep (kc 1 Y <| kc 2 Y <| kc 3 Y <| kc 5 Y <| kn) Y <| T_if h Y (fun b5 h => ?_) (fun b5 h => ?_)
  ·
   refine T_skip <| T_seq <| T_block <| T_keep (kc 1 Y <| kc 2 Y <| kc 3 Y <| kn) Y <| T_reg <| Rq Y (v_move (ov Y)) <| Rq Y (v_move (ov Y)) ?_
   obtain ⟨x, h_x, h⟩ := bnd h
   refine Rq Y (v_ixAG (ov Y) (ov Y) tR49 Y Y h_x) ?_
   refine Rq Y (v_loadS (ov Y) Y Y Y tS47 (at_get (at_at (o := 0) (o' := (i.toNat * 1)) (at_all arL) (at_v1 h_x)))) ?_
   refine Rq Y (v_conv (ov Y) tI47 tI3 Y) ?_
   obtain ⟨q, h_q, h⟩ := bnd h
   refine Rq Y (v_remG (ov Y) (ov Y) h_q) ?_
   obtain ⟨y, h_y, h⟩ := bnd h
   refine Rq Y (v_call (ok_ref1_word h_y) (.cons (ov Y) (.b Y) <| .nil)) ?_
   refine Rq Y (v_conv (ov Y) tI3 tI47 Y) ?_
   obtain ⟨x2, h_x2, h⟩ := bnd h
   refine Rq Y (v_ixAG (ov Y) (ov Y) tR49 Y Y h_x2) ?_
   refine Rx Y (w_store (ov Y) (ov Y) (cells_scal tS47) Y Y Y (arB h_x2) (cell1_all Y) (arS h_x2)) ?_
   refine R_nil <| T_keep (kc 1 Y <| kc 2 Y <| kc 3 Y <| kn) Y <| T_reg <| Rq Y (v_move (ov Y)) <| Rq Y (v_add (ov Y) (ov Y) Y) <| Rq Y (v_assign (ov Y)) <| R_nil ?_
   exact ⟨((vset f3 i (u16 y)), (i64 (i + 1))), h, Ent.sel [some 0, some 1] (sr 1 Y (.ptr _ _ _ Y) <| sr 2 Y (.ptr _ _ _ Y) <| sd 3 Y Y <| sn) (.cons Y (ro1 (by exact Eq.trans (b := 64) arL tZ_49.symm) (rld (arD fun _ => Y))) <| .cons Y (ro1 (by exact Eq.trans (b := 64) arL tZ_49.symm) (rld (arD fun _ => Y))) <| .nil) Y Y⟩
  ·
   refine T_exit ?_
   rw [lx h] at ho1
   replace h := ho1
   exact ⟨f3, h, Ent.sel [some 0, some 1] (sr 1 Y (.ptr _ _ _ Y) <| sr 2 Y (.ptr _ _ _ Y) <| sn) (.cons Y (ro1 (by exact Eq.trans (b := 64) arL tZ_49.symm) (rld (arD fun _ => Y))) <| .cons Y (ro1 (by exact Eq.trans (b := 64) arL tZ_49.symm) (rld (arD fun _ => Y))) <| .nil) Y Y⟩
 ·
  obtain ⟨f2, rfl⟩ : ∃ x, x = j := ⟨_, rfl⟩
  replace h := t1i h
  refine t1T ?_
  refine Tr <| Rq Y (v_loadA (ov Y) Y Y Y tA49 (at_sub (at_all arL)) arL (hns := (nsM fun _ => Y))) ?_
  obtain ⟨y2, h_y2, h⟩ := bnd h
  refine Rq Y (v_call (ok_ref1_numberOf h_y2) (.cons (ov Y) (.aggB (arD fun _ => Y)) <| .nil)) ?_
  obtain ⟨y3, h_y3, h⟩ := bnd h
  refine Rq Y (v_call (ok_ref1_syncOf h_y3) (.cons (ov Y) (.b Y) <| .nil)) ?_
  refine Rq Y (v_conv (ov Y) tI3 tI47 Y) ?_
  obtain ⟨x3, h_x3, h⟩ := bnd h
  refine Rq Y (v_ixAG (ov Y) (ov Y) tR49 Y Y h_x3) ?_
  refine Rx Y (w_store (ov Y) (ov Y) (cells_scal tS47) Y Y Y (arB h_x3) (cell1_all Y) (arS h_x3)) ?_
  refine R_nil <| T_keep (kc 1 Y <| kc 2 Y <| kn) Y <| Tr <| Rq Y (v_loadA (ov Y) Y Y Y tA49 (at_sub (at_all arL)) arL (hns := (nsM fun _ => Y))) ?_
  obtain ⟨y4, h_y4, h⟩ := bnd h
  refine Rq Y (v_call (ok_ref1_sum h_y4) (.cons (ov Y) (.aggB (arD fun _ => Y)) <| .nil)) ?_
  obtain ⟨y5, h_y5, h⟩ := bnd h
  refine Rq Y (v_call (ok_ref1_word h_y5) (.cons (ov Y) (.b Y) <| .nil)) ?_
  refine Rq Y (v_conv (ov Y) tI3 tI47 Y) ?_
  obtain ⟨x4, h_x4, h⟩ := bnd h
  refine Rq Y (v_ixAG (ov Y) (ov Y) tR49 Y Y h_x4) ?_
  refine Rx Y (w_store (ov Y) (ov Y) (cells_scal tS47) Y Y Y (arB h_x4) (cell1_all Y) (arS h_x4)) ?_
  refine R_nil <| T_keep (kc 1 Y <| kc 2 Y <| kn) Y <| Tr <| Rq Y (v_loadA (ov Y) Y Y Y tA49 (at_sub (at_all arL)) arL (hns := (nsM fun _ => Y))) ?_
  obtain ⟨y6, h_y6, h⟩ := bnd h
  refine Rq Y (v_call (ok_ref1_checked h_y6) (.cons (ov Y) (.aggB (arD fun _ => Y)) <| .nil)) ?_
  refine Rx Y (w_store (ov Y) (ov Y) (cells_agg tA49 arL) Y Y Y (put_le (at_all arL) arL) (cell1_all (arC fun _ => Y)) (put_all (Eq.trans arL (Eq.symm arL)))) ?_
  refine R_nil ?_
  obtain rfl := rt (v := y6) h
  refine T_ret (retq ?_ (.one (.agg Y Y Y Y tA49 (at_sub (at_all arL)) arL (pwB (arD fun _ => Y)) (hns := (nsM fun _ => Y)))))
  rfl

theorem ok_ref1_New {number : Int} {data : List Int} {r : (Vector Int 64) × Int} (h : ref1_New number data = some r) :
  CSpec Tryz.prog gl0 102 [.int .i64 number, .sl 3 (List.map R3 data)] (.tuple [.agg (List.map C47 r.1.toList), .int .i64 r.2]) := by
 unfold ref1_New at h
 replace h := bnd0 h
 refine spec_of (by kernel_rfl) Tryz.func102 Y Y ?_
 intro w0 A
 refine Tr <| Rx Y (w_alloc (row := (List.map C47 (Vector.replicate 64 0).toList)) 0 Y tZ49 Y tZ_49) <| Rq Y (v_assign (ov Y)) <| R_nil <| T_seq <| T_keep (kc 0 Y <| kc 1 Y <| kc 4 Y <| kn) Y <| Tr <| Rq Y (v_move (ov Y)) <| Rq Y (v_lss (ov Y) (ov Y)) <| Rq Y (v_move (ov Y)) <| Rq Y (.guarded ((decide (number < 0)) == false) Y Y Y Y fun h => v_move (ov Y)) <| Rq Y (.guarded ((decide (number < 0)) == false) Y Y Y Y fun h => v_geq (ow Y h) (ov Y)) <| Rq Y (v_or (ov Y) (fun hp => ow Y (gF hp))) <| R_nil <| T_keep (kc 0 Y <| kc 1 Y <| kc 4 Y <| kc 14 Y <| kn) Y <| T_if h Y (fun b14 h => ?_) (fun b14 h => ?_)
 ·
  refine T_keep (kc 4 Y <| kn) Y <| Tr <| R_q (.agg (List.map C47 (#v[0, 0, 0, 0, 0, 0, 0, 0, 0, 0, 0, 0, 0, 0, 0, 0, 0, 0, 0, 0, 0, 0, 0, 0, 0, 0, 0, 0, 0, 0, 0, 0, 0, 0, 0, 0, 0, 0, 0, 0, 0, 0, 0, 0, 0, 0, 0, 0, 0, 0, 0, 0, 0, 0, 0, 0, 0, 0, 0, 0, 0, 0, 0, 0] : Vector Int 64).toList)) Y (v_buildA (ys := [_, _, _, _, _, _, _, _, _, _, _, _, _, _, _, _, _, _, _, _, _, _, _, _, _, _, _, _, _, _, _, _, _, _, _, _, _, _, _, _, _, _, _, _, _, _, _, _, _, _, _, _, _, _, _, _, _, _, _, _, _, _, _, _]) tR49 tZ49 (.nil) Y) <| Rx Y (w_store (ov Y) (ov Y) (cells_agg tA49 arL) Y Y Y (put_le (at_all arL) arL) (cell1_all (arC fun _ => Y)) (put_all (Eq.trans arL (Eq.symm arL)))) <| Rq Y (v_assign (ov Y)) <| R_nil ?_
  obtain rfl := rt (v := ((#v[0, 0, 0, 0, 0, 0, 0, 0, 0, 0, 0, 0, 0, 0, 0, 0, 0, 0, 0, 0, 0, 0, 0, 0, 0, 0, 0, 0, 0, 0, 0, 0, 0, 0, 0, 0, 0, 0, 0, 0, 0, 0, 0, 0, 0, 0, 0, 0, 0, 0, 0, 0, 0, 0, 0, 0, 0, 0, 0, 0, 0, 0, 0, 0] : Vector Int 64), 9)) h
  refine T_ret (retq ?_ (.two (.agg Y Y Y Y tA49 (at_sub (at_all arL)) arL (pwB (arD fun _ => Y)) (hns := (nsM fun _ => Y))) (.tmp Y (Dat.view (.b Y)))))
  rfl
 ·
  refine T_skip <| T_seq <| T_keep (kc 0 Y <| kc 1 Y <| kc 4 Y <| kn) Y <| Tr <| Rq Y (v_move (ov Y)) <| Rq Y (v_len (slv_sl (ov Y) tZ_3) tL28 (len_map _ _)) <| Rq Y (v_neq (ov Y) (ov Y)) <| R_nil <| T_keep (kc 0 Y <| kc 1 Y <| kc 4 Y <| kc 18 Y <| kn) Y <| T_if h Y (fun b18 h => ?_) (fun b18 h => ?_)
  ·
   refine T_keep (kc 4 Y <| kn) Y <| Tr <| R_q (.agg (List.map C47 (#v[0, 0, 0, 0, 0, 0, 0, 0, 0, 0, 0, 0, 0, 0, 0, 0, 0, 0, 0, 0, 0, 0, 0, 0, 0, 0, 0, 0, 0, 0, 0, 0, 0, 0, 0, 0, 0, 0, 0, 0, 0, 0, 0, 0, 0, 0, 0, 0, 0, 0, 0, 0, 0, 0, 0, 0, 0, 0, 0, 0, 0, 0, 0, 0] : Vector Int 64).toList)) Y (v_buildA (ys := [_, _, _, _, _, _, _, _, _, _, _, _, _, _, _, _, _, _, _, _, _, _, _, _, _, _, _, _, _, _, _, _, _, _, _, _, _, _, _, _, _, _, _, _, _, _, _, _, _, _, _, _, _, _, _, _, _, _, _, _, _, _, _, _]) tR49 tZ49 (.nil) Y) <| Rx Y (w_store (ov Y) (ov Y) (cells_agg tA49 arL) Y Y Y (put_le (at_all arL) arL) (cell1_all (arC fun _ => Y)) (put_all (Eq.trans arL (Eq.symm arL)))) <| Rq Y (v_assign (ov Y)) <| R_nil ?_
   obtain rfl := rt (v := ((#v[0, 0, 0, 0, 0, 0, 0, 0, 0, 0, 0, 0, 0, 0, 0, 0, 0, 0, 0, 0, 0, 0, 0, 0, 0, 0, 0, 0, 0, 0, 0, 0, 0, 0, 0, 0, 0, 0, 0, 0, 0, 0, 0, 0, 0, 0, 0, 0, 0, 0, 0, 0, 0, 0, 0, 0, 0, 0, 0, 0, 0, 0, 0, 0] : Vector Int 64), 3)) h
   refine T_ret (retq ?_ (.two (.agg Y Y Y Y tA49 (at_sub (at_all arL)) arL (pwB (arD fun _ => Y)) (hns := (nsM fun _ => Y))) (.tmp Y (Dat.view (.b Y)))))
   rfl
  ·
   refine T_skip <| T_keep (kc 0 Y <| kc 1 Y <| kc 4 Y <| kn) Y <| Tr <| R_q (.agg (List.map C47 (#v[0, 0, 0, 0, 0, 0, 0, 0, 0, 0, 0, 0, 0, 0, 0, 0, 0, 0, 0, 0, 0, 0, 0, 0, 0, 0, 0, 0, 0, 0, 0, 0, 0, 0, 0, 0, 0, 0, 0, 0, 0, 0, 0, 0, 0, 0, 0, 0, 0, 0, 0, 0, 0, 0, 0, 0, 0, 0, 0, 0, 0, 0, 0, 0] : Vector Int 64).toList)) Y (v_buildA (ys := [_, _, _, _, _, _, _, _, _, _, _, _, _, _, _, _, _, _, _, _, _, _, _, _, _, _, _, _, _, _, _, _, _, _, _, _, _, _, _, _, _, _, _, _, _, _, _, _, _, _, _, _, _, _, _, _, _, _, _, _, _, _, _, _]) tR49 tZ49 (.nil) Y) <| Rx Y (w_alloc (row := (List.map C47 (Vector.replicate 64 0).toList)) 1 Y tZ49 Y tZ_49) <| Rx Y (w_store (ov Y) (ov Y) (cells_agg tA49 arL) Y Y Y (put_le (at_all arL) arL) (cell1_all (arC fun _ => Y)) (put_all (Eq.trans arL (Eq.symm arL)))) <| R_nil <| T_keep (kc 0 Y <| kc 1 Y <| kc 4 Y <| kc 6 Y <| kn) Y <| Tr <| Rq Y (v_move (ov Y)) ?_
   obtain ⟨q, h_q, h⟩ := bnd h
   refine Rq Y (v_remG (ov Y) (ov Y) h_q) ?_
   refine Rq Y (v_conv (ov Y) tI3 tI47 Y) ?_
   refine Rq Y (v_move (ov Y)) ?_
   obtain ⟨q2, h_q2, h⟩ := bnd h
   refine Rq Y (v_quoG (ov Y) (ov Y) h_q2) ?_
   refine Rq Y (v_conv (ov Y) tI3 tI47 Y) ?_
   obtain ⟨x, h_x, h⟩ := bnd h
   refine Rq Y (v_ixAG (ov Y) (ov Y) tR49 Y Y h_x) ?_
   refine Rx Y (w_store (ov Y) (ov Y) (cells_scal tS47) Y Y Y (arB h_x) (cell1_all Y) (arS h_x)) ?_
   obtain ⟨x2, h_x2, h⟩ := bnd h
   refine Rq Y (v_ixAG (ov Y) (ov Y) tR49 Y Y h_x2) ?_
   refine Rx Y (w_store (ov Y) (ov Y) (cells_scal tS47) Y Y Y (arB h_x2) (cell1_all Y) (arS h_x2)) ?_
   refine R_nil <| T_joinG (fun j => (.inr j)) (t1 fun f => ⟨[(4, .ptr 0 1 0 0), (6, .ptr 1 1 0 0)], [some ⟨49, [(List.map C47 (Vector.replicate 64 0).toList)]⟩, some ⟨49, [(List.map C47 f.toList)]⟩]⟩) h (fun h => ?_) (fun j h => ?_)
   ·
    refine T_keep (kc 1 Y <| kc 4 Y <| kc 6 Y <| kn) Y <| Tr <| Rq Y (v_move (ov Y)) <| Rq Y (v_len (slv_sl (ov Y) tZ_3) tL28 (len_map _ _)) <| Rq Y (v_move (ov Y)) <| R_nil <| T_block ?_
    obtain ⟨r1, hl1, ho1⟩ := bndL h
    refine T_loopG _ (t2 fun f2 i => ⟨[(4, .ptr 0 1 0 0), (6, .ptr 1 1 0 0), (29, .sl 3 (List.map R3 data)), (30, .int .i64 (data.length : Int)), (31, .int .i64 i)], [some ⟨49, [(List.map C47 (Vector.replicate 64 0).toList)]⟩, some ⟨49, [(List.map C47 f2.toList)]⟩]⟩) _ hl1 (Ent.sel [some 0, some 1] (sr 4 Y (.ptr _ _ _ Y) <| sr 6 Y (.ptr _ _ _ Y) <| sd 29 Y Y <| sd 30 Y Y <| sd 31 Y Y <| sn) (.cons Y (ro1 (by exact Eq.trans (b := 64) arL tZ_49.symm) (rld (arD fun _ => Y))) <| .cons Y (ro1 (by exact Eq.trans (b := 64) arL tZ_49.symm) (rld (arD fun _ => Y))) <| .nil) Y Y) (fun n1 s1 h => ?_)
    obtain ⟨f2, i⟩ := s1
    replace h := t2i h
    refine t2T ?_
    unfold ref1_New_L1 at h
    refine Tr <| Rq Y (v_lss (ov Y) (ov Y)) <| R_nil <| T_seq <| T_if h Y (fun b32 h => ?_) (fun b32 h => ?_)
    ·
     refine T_skip <| T_seq <| T_block <| T_keep (kc 4 Y <| kc 6 Y <| kc 29 Y <| kc 30 Y <| kc 31 Y <| kn) Y <| Tr <| Rq Y (v_move (ov Y)) ?_
     obtain ⟨x3, h_x3, h⟩ := bnd h
     refine Rq Y (v_ixSG (ov Y) (ov Y) tL28 h_x3) ?_
     refine Rq Y (v_loadS_r (ov Y) tS3 Y) ?_
     refine Rq Y (v_assign (ov Y)) ?_
     refine Rq Y (v_assign (ov Y)) ?_
     refine R_nil <| T_seq <| T_keep (kc 4 Y <| kc 6 Y <| kc 7 Y <| kc 8 Y <| kc 29 Y <| kc 30 Y <| kc 31 Y <| kn) Y <| Tr <| Rq Y (v_move (ov Y)) <| Rq Y (v_lss (ov Y) (ov Y)) <| Rq Y (v_move (ov Y)) <| Rq Y (.guarded ((decide (x3 < 0)) == false) Y Y Y Y fun h => v_move (ov Y)) <| Rq Y (.guarded ((decide (x3 < 0)) == false) Y Y Y Y fun h => v_gtr (ow Y h) (ov Y)) <| Rq Y (v_or (ov Y) (fun hp => ow Y (gF hp))) <| R_nil <| T_keep (kc 4 Y <| kc 6 Y <| kc 7 Y <| kc 8 Y <| kc 29 Y <| kc 30 Y <| kc 31 Y <| kc 41 Y <| kn) Y <| T_if h Y (fun b41 h => ?_) (fun b41 h => ?_)
     ·
      refine T_keep (kc 4 Y <| kn) Y <| Tr <| R_q (.agg (List.map C47 (#v[0, 0, 0, 0, 0, 0, 0, 0, 0, 0, 0, 0, 0, 0, 0, 0, 0, 0, 0, 0, 0, 0, 0, 0, 0, 0, 0, 0, 0, 0, 0, 0, 0, 0, 0, 0, 0, 0, 0, 0, 0, 0, 0, 0, 0, 0, 0, 0, 0, 0, 0, 0, 0, 0, 0, 0, 0, 0, 0, 0, 0, 0, 0, 0] : Vector Int 64).toList)) Y (v_buildA (ys := [_, _, _, _, _, _, _, _, _, _, _, _, _, _, _, _, _, _, _, _, _, _, _, _, _, _, _, _, _, _, _, _, _, _, _, _, _, _, _, _, _, _, _, _, _, _, _, _, _, _, _, _, _, _, _, _, _, _, _, _, _, _, _, _]) tR49 tZ49 (.nil) Y) <| Rx Y (w_store (ov Y) (ov Y) (cells_agg tA49 arL) Y Y Y (put_le (at_all arL) arL) (cell1_all (arC fun _ => Y)) (put_all (Eq.trans arL (Eq.symm arL)))) <| Rq Y (v_assign (ov Y)) <| R_nil ?_
      rw [lx h] at ho1
      replace h := ho1
      obtain rfl := rt (v := ((#v[0, 0, 0, 0, 0, 0, 0, 0, 0, 0, 0, 0, 0, 0, 0, 0, 0, 0, 0, 0, 0, 0, 0, 0, 0, 0, 0, 0, 0, 0, 0, 0, 0, 0, 0, 0, 0, 0, 0, 0, 0, 0, 0, 0, 0, 0, 0, 0, 0, 0, 0, 0, 0, 0, 0, 0, 0, 0, 0, 0, 0, 0, 0, 0] : Vector Int 64), 9)) h
      refine T_ret (retq ?_ (.two (.agg Y Y Y Y tA49 (at_sub (at_all arL)) arL (pwB (arD fun _ => Y)) (hns := (nsM fun _ => Y))) (.tmp Y (Dat.view (.b Y)))))
      rfl
     ·
      refine T_skip <| T_keep (kc 4 Y <| kc 6 Y <| kc 7 Y <| kc 8 Y <| kc 29 Y <| kc 30 Y <| kc 31 Y <| kn) Y <| T_reg <| Rq Y (v_move (ov Y)) <| Rq Y (v_add (ov Y) (ov Y) Y) <| Rq Y (v_move (ov Y)) <| Rq Y (v_conv (ov Y) tI3 tI47 Y) ?_
      obtain ⟨x4, h_x4, h⟩ := bnd h
      refine Rq Y (v_ixAG (ov Y) (ov Y) tR49 Y Y h_x4) ?_
      refine Rx Y (w_store (ov Y) (ov Y) (cells_scal tS47) Y Y Y (arB h_x4) (cell1_all Y) (arS h_x4)) ?_
      refine R_nil <| T_keep (kc 4 Y <| kc 6 Y <| kc 29 Y <| kc 30 Y <| kc 31 Y <| kn) Y <| T_reg <| Rq Y (v_add (ov Y) (ov Y) Y) <| Rq Y (v_move (ov Y)) <| R_nil ?_
      exact ⟨((vset f2 (i64 (3 + i)) (u16 x3)), (i64 (i + 1))), h, Ent.sel [some 0, some 1] (sr 4 Y (.ptr _ _ _ Y) <| sr 6 Y (.ptr _ _ _ Y) <| sd 29 Y Y <| sd 30 Y Y <| sd 31 Y Y <| sn) (.cons Y (ro1 (by exact Eq.trans (b := 64) arL tZ_49.symm) (rld (arD fun _ => Y))) <| .cons Y (ro1 (by exact Eq.trans (b := 64) arL tZ_49.symm) (rld (arD fun _ => Y))) <| .nil) Y Y⟩
    ·
     refine T_exit ?_
     rw [lx h] at ho1
     replace h := ho1
     exact ⟨f2, h, Ent.sel [some 0, some 1] (sr 4 Y (.ptr _ _ _ Y) <| sr 6 Y (.ptr _ _ _ Y) <| sn) (.cons Y (ro1 (by exact Eq.trans (b := 64) arL tZ_49.symm) (rld (arD fun _ => Y))) <| .cons Y (ro1 (by exact Eq.trans (b := 64) arL tZ_49.symm) (rld (arD fun _ => Y))) <| .nil) Y Y⟩
   ·
    replace h := elr h
    obtain ⟨f, rfl⟩ : ∃ x, x = j := ⟨_, rfl⟩
    replace h := t1i h
    refine t1T ?_
    refine Tr <| Rq Y (v_loadA (ov Y) Y Y Y tA49 (at_sub (at_all arL)) arL (hns := (nsM fun _ => Y))) ?_
    obtain ⟨y, h_y, h⟩ := bnd h
    refine Rq Y (v_call (ok_ref1_sealed h_y) (.cons (ov Y) (.aggB (arD fun _ => Y)) <| .nil)) ?_
    refine Rx Y (w_store (ov Y) (ov Y) (cells_agg tA49 arL) Y Y Y (put_le (at_all arL) arL) (cell1_all (arC fun _ => Y)) (put_all (Eq.trans arL (Eq.symm arL)))) ?_
    refine Rq Y (v_assign (ov Y)) ?_
    refine R_nil ?_
    obtain rfl := rt (v := (y, 0)) h
    refine T_ret (retq ?_ (.two (.agg Y Y Y Y tA49 (at_sub (at_all arL)) arL (pwB (arD fun _ => Y)) (hns := (nsM fun _ => Y))) (.tmp Y (Dat.view (.b Y)))))
    rfl

theorem ok_ref1_Wide {f : Vector Int 64} {r : Bool} (h : ref1_Wide f = some r) :
  CSpec Tryz.prog gl0 104 [.agg (List.map C47 f.toList)] (.bool r) := by
 unfold ref1_Wide at h
 replace h := bnd0 h
 refine spec_of (by kernel_rfl) Tryz.func104 Y Y ?_
 intro w0 A
 refine Tr <| Rq Y (v_boxD (cva (ov Y)) arL tZ_49 (arD fun _ => Y)) <| Rq Y (v_assign (ov Y)) <| R_nil <| T_joinG (fun j => (.inr j)) (t0 ⟨[], []⟩) h (fun h => ?_) (fun j h => ?_)
 ·
  refine T_keep (kc 1 Y <| kn) Y <| Tr <| Rq Y (v_loadA_r (ov Y) tA49 (at_sub (at_all arL)) arL) <| Rq Y (v_move (ov Y)) <| R_nil <| T_block ?_
  obtain ⟨r1, hl1, ho1⟩ := bndL h
  refine T_loopG _ (t1 fun i => ⟨[(5, .agg (List.map C47 f.toList)), (6, .int .i64 i)], []⟩) _ hl1 (Ent.sel [] (sr 5 Y (rAgg (rld (arD fun _ => Y))) <| sd 6 Y Y <| sn) (.nil) Y Y) (fun n1 s1 h => ?_)
  obtain ⟨i, rfl⟩ : ∃ x, x = s1 := ⟨_, rfl⟩
  replace h := t1i h
  refine t1T ?_
  unfold ref1_Wide_L1 at h
  refine Tr <| Rq Y (v_lss (ov Y) (ov Y)) <| R_nil <| T_seq <| T_if h Y (fun b7 h => ?_) (fun b7 h => ?_)
  ·
   refine T_skip <| T_seq <| T_block <| T_keep (kc 5 Y <| kc 6 Y <| kn) Y <| Tr ?_
   obtain ⟨x, h_x, h⟩ := bnd h
   refine Rq Y (v_indexVG (ov Y) (ov Y) tR49 tS47 h_x) ?_
   refine Rq Y (v_assign (ov Y)) ?_
   refine R_nil <| T_keep (kc 4 Y <| kc 5 Y <| kc 6 Y <| kn) Y <| Tr <| Rq Y (v_move (ov Y)) <| Rq Y (v_gtr (ov Y) (ov Y)) <| R_nil <| T_keep (kc 5 Y <| kc 6 Y <| kc 10 Y <| kn) Y <| T_if h Y (fun b10 h => ?_) (fun b10 h => ?_)
   ·
    refine T_keep (kn) Y <| Tr <| Rq Y (v_assign (ov Y)) <| R_nil ?_
    rw [lx h] at ho1
    replace h := ho1
    obtain rfl := rt (v := true) h
    refine T_ret (retq ?_ (.one (.tmp Y (Dat.view (.b Y)))))
    rfl
   ·
    refine T_skip <| T_keep (kc 5 Y <| kc 6 Y <| kn) Y <| T_reg <| Rq Y (v_add (ov Y) (ov Y) Y) <| Rq Y (v_move (ov Y)) <| R_nil ?_
    exact ⟨(i64 (i + 1)), h, Ent.sel [] (sr 5 Y (rAgg (rld (arD fun _ => Y))) <| sd 6 Y Y <| sn) (.nil) Y Y⟩
  ·
   refine T_exit ?_
   rw [lx h] at ho1
   replace h := ho1
   exact ⟨(), h, Ent.sel [] (sn) (.nil) Y Y⟩
 ·
  replace h := elr h
  cases j
  replace h := t0i h
  refine t0T ?_
  refine Tr <| Rq Y (v_assign (ov Y)) <| R_nil ?_
  obtain rfl := rt (v := false) h
  refine T_ret (retq ?_ (.one (.tmp Y (Dat.view (.b Y)))))
  rfl

theorem ok_ref1_Half {f : Vector Int 64} {n : Int} {r : Int} (h : ref1_Half f n = some r) :
  CSpec Tryz.prog gl0 191 [.agg (List.map C47 f.toList), .int .i64 n] (.int .i64 r) := by
 unfold ref1_Half at h
 replace h := bnd0 h
 refine spec_of (by kernel_rfl) Tryz.func191 Y Y ?_
 intro w0 A
 refine Tr <| Rq Y (v_boxD (cva (ov Y)) arL tZ_49 (arD fun _ => Y)) <| Rq Y (v_assign (ov Y)) <| R_nil <| T_keep (kc 1 Y <| kc 2 Y <| kc 4 Y <| kn) Y <| Tr <| Rq Y (v_move (ov Y)) ?_
 obtain ⟨q, h_q, h⟩ := bnd h
 refine Rq Y (v_quoG (ov Y) (ov Y) h_q) ?_
 obtain ⟨x, h_x, h⟩ := bnd h
 refine Rq Y (v_ixRG (ov Y) (ov Y) tR49 h_x) ?_
 refine Rq Y (v_loadS_r (ov Y) tS47 (at_get (at_at (o := 0) (o' := (q.toNat * 1)) (at_all arL) (at_v1 h_x)))) ?_
 refine Rq Y (v_conv (ov Y) tI47 tI3 Y) ?_
 refine Rq Y (v_move (ov Y)) ?_
 obtain ⟨q2, h_q2, h⟩ := bnd h
 refine Rq Y (v_remG (ov Y) (ov Y) h_q2) ?_
 refine Rq Y (v_mul (ov Y) (ov Y) Y) ?_
 refine Rq Y (v_sub (ov Y) (ov Y) Y) ?_
 obtain ⟨q3, h_q3, h⟩ := bnd h
 refine Rq Y (v_shrG (ov Y) (ov Y) h_q3) ?_
 refine Rq Y (v_and_ (ov Y) (ov Y)) ?_
 refine Rq Y (v_assign (ov Y)) ?_
 refine R_nil ?_
 obtain rfl := rt (v := (band .i64 q3 15)) h
 refine T_ret (retq ?_ (.one (.tmp Y (Dat.view (.b Y)))))
 rfl

theorem ok_ref1_bytes {f : Vector Int 64} {r : (List Int)} (h : ref1_bytes f = some r) :
  CSpec Tryz.prog gl0 105 [.agg (List.map C47 f.toList)] (.sl 5 (List.map R5 r)) := by
 unfold ref1_bytes at h
 replace h := bnd0 h
 refine spec_of (by kernel_rfl) Tryz.func105 Y Y ?_
 intro w0 A
 refine Tr <| Rq Y (v_boxD (cva (ov Y)) arL tZ_49 (arD fun _ => Y)) <| Rq Y (v_assign (ov Y)) <| R_nil <| T_keep (kc 1 Y <| kn) Y <| Tr ?_
 obtain ⟨l, h_l, h⟩ := bnd h
 refine Rx Y (w_makeG [none] (r := 0) (f := R5) (z0 := 0) Y (ov Y) (ov Y) tL68 Y tZ5 Y Y h_l) ?_
 refine Rq Y (v_assign (ov Y)) ?_
 refine R_nil <| T_joinG id (t1 fun out => ⟨[(3, .own 0 out.length)], [some ⟨5, List.map R5 out⟩]⟩) h (fun h => ?_) (fun j h => ?_)
 ·
  refine T_keep (kc 1 Y <| kc 3 Y <| kn) Y <| Tr <| Rq Y (v_move (ov Y)) <| Rq Y (v_lenO (ov Y) Y Y tL68) <| Rq Y (v_move (ov Y)) <| R_nil <| T_block ?_
  obtain ⟨r1, hl1, ho1⟩ := bndL h
  refine T_loopG _ (t2 fun out2 i => ⟨[(1, .rp (List.map C47 f.toList) 0), (3, .own 0 out2.length), (7, .int .i64 (l.length : Int)), (8, .int .i64 i)], [some ⟨5, List.map R5 out2⟩]⟩) _ hl1 (Ent.sel [some 0] (sd 1 Y Y <| sr 3 Y (.own _ Y) <| sd 7 Y Y <| sd 8 Y Y <| sn) (.cons Y (roM D5) <| .nil) Y Y) (fun n1 s1 h => ?_)
  obtain ⟨out2, i⟩ := s1
  replace h := t2i h
  refine t2T ?_
  unfold ref1_bytes_L1 at h
  refine Tr <| Rq Y (v_lss (ov Y) (ov Y)) <| R_nil <| T_seq <| T_if h Y (fun b9 h => ?_) (fun b9 h => ?_)
  ·
   refine T_skip <| T_seq <| T_block <| T_keep (kc 1 Y <| kc 3 Y <| kc 7 Y <| kc 8 Y <| kn) Y <| Tr <| Rq Y (v_move (ov Y)) <| Rq Y (v_assign (ov Y)) <| R_nil <| T_keep (kc 1 Y <| kc 3 Y <| kc 4 Y <| kc 7 Y <| kc 8 Y <| kn) Y <| T_draw (cw := md0) (by kernel_rfl) <| Dq 0 Y Y Y (v_move (ov Y)) <| Dq 1 Y Y Y (v_move (ov Y)) <| Dq 2 Y Y Y (v_loadA_r (ov Y) tA49 (at_sub (at_all arL)) arL) <| Dq 3 Y Y Y (v_move (ov Y)) <| Dq 4 Y Y Y (v_mul (ov Y) (ov Y) Y) ?_
   obtain ⟨y, h_y, h⟩ := bnd h
   refine Dq 5 Y Y Y (v_call (ok_ref1_Half h_y) (.cons (ov Y) (.aggB (arD fun _ => Y)) <| .cons (ov Y) (.b Y) <| .nil)) ?_
   refine Dq 6 Y Y Y (v_mul (ov Y) (ov Y) Y) ?_
   refine Dq 7 Y Y Y (v_loadA_r (ov Y) tA49 (at_sub (at_all arL)) arL) ?_
   refine Dq 8 Y Y Y (v_move (ov Y)) ?_
   refine Dq 9 Y Y Y (v_mul (ov Y) (ov Y) Y) ?_
   refine Dq 10 Y Y Y (v_add (ov Y) (ov Y) Y) ?_
   obtain ⟨y2, h_y2, h⟩ := bnd h
   refine Dq 11 Y Y Y (v_call (ok_ref1_Half h_y2) (.cons (ov Y) (.aggB (arD fun _ => Y)) <| .cons (ov Y) (.b Y) <| .nil)) ?_
   refine Dq 12 Y Y Y (v_add (ov Y) (ov Y) Y) ?_
   refine Dq 13 Y Y Y (v_conv (ov Y) tI3 tI5 Y) ?_
   obtain ⟨x, h_x, h⟩ := bnd h
   refine Dq 14 Y Y Y (v_ixOG (ov Y) (ov Y) tL68 Y Y h_x) ?_
   refine Do 15 Y Y Y (w_storeR (u' := (u8 (i64 ((i64 (16 * y)) + y2)))) (ov Y) (ov Y) (cells_scal tS5) Y Y h_x Y (cell1_all Y) Y) ?_
   refine D_done (by kernel_rfl) ?_
   refine T_keep (kc 1 Y <| kc 3 Y <| kc 7 Y <| kc 8 Y <| kn) Y <| T_reg <| Rq Y (v_add (ov Y) (ov Y) Y) <| Rq Y (v_move (ov Y)) <| R_nil ?_
   exact ⟨((out2.set i.toNat (u8 (i64 ((i64 (16 * y)) + y2)))), (i64 (i + 1))), h, Ent.sel [some 0] (sd 1 Y Y <| sr 3 Y (ownE (Eq.symm ((List.length_set ..).trans Y)) Y) <| sd 7 Y Y <| sd 8 Y Y <| sn) (.cons Y (roM D5) <| .nil) Y Y⟩
  ·
   refine T_exit ?_
   rw [lx h] at ho1
   replace h := ho1
   exact ⟨out2, h, Ent.sel [some 0] (sr 3 Y (.own _ Y) <| sn) (.cons Y (roM D5) <| .nil) Y Y⟩
 ·
  obtain ⟨out, rfl⟩ : ∃ x, x = j := ⟨_, rfl⟩
  replace h := t1i h
  refine t1T ?_
  refine Tr <| Rq Y (v_move (ov Y)) <| Rq Y (v_assign (ov Y)) <| R_nil ?_
  obtain rfl := rt (v := out) h
  refine T_ret (retq ?_ (.one (.tmp Y (View.ownM Y Y D5))))
  rfl

theorem ok_ref1_ToBytes {f : Vector Int 64} {r : (List Int) × Int} (h : ref1_ToBytes f = some r) :
  CSpec Tryz.prog gl0 33 [.agg (List.map C47 f.toList)] (.tuple [.sl 5 (List.map R5 r.1), .int .i64 r.2]) := by
 unfold ref1_ToBytes at h
 replace h := bnd0 h
 refine spec_of (by kernel_rfl) Tryz.func33 Y Y ?_
 intro w0 A
 refine Tr <| Rq Y (v_boxD (cva (ov Y)) arL tZ_49 (arD fun _ => Y)) <| Rq Y (v_assign (ov Y)) <| Rq Y (v_assign (ov Y)) <| R_nil <| T_seq <| T_keep (kc 1 Y <| kn) Y <| Tr <| Rq Y (v_loadA_r (ov Y) tA49 (at_sub (at_all arL)) arL) ?_
 obtain ⟨y, h_y, h⟩ := bnd h
 refine Rq Y (v_call (ok_ref1_Wide h_y) (.cons (ov Y) (.aggB (arD fun _ => Y)) <| .nil)) ?_
 refine R_nil <| T_keep (kc 1 Y <| kc 5 Y <| kn) Y <| T_if h Y (fun b5 h => ?_) (fun b5 h => ?_)
 ·
  refine T_keep (kn) Y <| Tr <| Rq Y (v_assign (ov Y)) <| Rq Y (v_assign (ov Y)) <| R_nil ?_
  obtain rfl := rt (v := ([], 9)) h
  refine T_ret (retq ?_ (.two (.tmp Y (View.nils 5)) (.tmp Y (Dat.view (.b Y)))))
  rfl
 ·
  refine T_skip <| T_keep (kc 1 Y <| kn) Y <| Tr <| Rq Y (v_loadA_r (ov Y) tA49 (at_sub (at_all arL)) arL) ?_
  obtain ⟨y2, h_y2, h⟩ := bnd h
  refine Rq Y (v_call (ok_ref1_bytes h_y2) (.cons (ov Y) (.aggB (arD fun _ => Y)) <| .nil)) ?_
  refine Rq Y (v_assign (ov Y)) ?_
  refine Rq Y (v_assign (ov Y)) ?_
  refine R_nil ?_
  obtain rfl := rt (v := (y2, 0)) h
  refine T_ret (retq ?_ (.two (.tmp Y (Dat.view (.b Y))) (.tmp Y (Dat.view (.b Y)))))
  rfl

theorem ok_salvage_halves {p : api_Piece} {r : (List Int)} (h : salvage_halves p = some r) :
  CSpec Tryz.prog gl0 99 [.agg [.sl 5 (List.map R5 p.Bytes), .bool p.Half]] (.sl 5 (List.map R5 r)) := by
 unfold salvage_halves at h
 replace h := bnd0 h
 refine spec_of (by kernel_rfl) Tryz.func99 Y Y ?_
 intro w0 A
 refine Tr <| Rq Y (v_boxD (cva (ov Y)) Y tZ_70 Y) <| Rq Y (v_assign (ov Y)) <| R_nil <| T_keep (kc 1 Y <| kn) Y <| Tr <| Rq Y (v_loadA_r (ov Y) tA70 Y Y) ?_
 obtain ⟨y, h_y, h⟩ := bnd h
 refine Rq Y (v_call (ok_salvage_length h_y) (.cons (ov Y) (.aggB Y) <| .nil)) ?_
 obtain ⟨l, h_l, h⟩ := bnd h
 refine Rx Y (w_makeG [none] (r := 0) (f := R5) (z0 := 0) Y (ov Y) (ov Y) tL68 Y tZ5 Y Y h_l) ?_
 refine Rq Y (v_assign (ov Y)) ?_
 refine R_nil <| T_joinG id (t1 fun out => ⟨[(3, .own 0 out.length)], [some ⟨5, List.map R5 out⟩]⟩) h (fun h => ?_) (fun j h => ?_)
 ·
  refine T_keep (kc 1 Y <| kc 3 Y <| kn) Y <| Tr <| Rq Y (v_move (ov Y)) <| Rq Y (v_lenO (ov Y) Y Y tL68) <| Rq Y (v_move (ov Y)) <| R_nil <| T_block ?_
  obtain ⟨r1, hl1, ho1⟩ := bndL h
  refine T_loopG _ (t2 fun out2 i => ⟨[(1, .rp [.sl 5 (List.map R5 p.Bytes), .bool p.Half] 0), (3, .own 0 out2.length), (9, .int .i64 (l.length : Int)), (10, .int .i64 i)], [some ⟨5, List.map R5 out2⟩]⟩) _ hl1 (Ent.sel [some 0] (sd 1 Y Y <| sr 3 Y (.own _ Y) <| sd 9 Y Y <| sd 10 Y Y <| sn) (.cons Y (roM D5) <| .nil) Y Y) (fun n1 s1 h => ?_)
  obtain ⟨out2, i⟩ := s1
  replace h := t2i h
  refine t2T ?_
  unfold salvage_halves_L1 at h
  refine Tr <| Rq Y (v_lss (ov Y) (ov Y)) <| R_nil <| T_seq <| T_if h Y (fun b11 h => ?_) (fun b11 h => ?_)
  ·
   refine T_skip <| T_seq <| T_block <| T_keep (kc 1 Y <| kc 3 Y <| kc 9 Y <| kc 10 Y <| kn) Y <| Tr <| Rq Y (v_move (ov Y)) <| Rq Y (v_assign (ov Y)) <| R_nil <| T_keep (kc 1 Y <| kc 3 Y <| kc 4 Y <| kc 9 Y <| kc 10 Y <| kn) Y <| T_draw (cw := md0) (by kernel_rfl) <| Dq 0 Y Y Y (v_move (ov Y)) <| Dq 1 Y Y Y (v_move (ov Y)) <| Dq 2 Y Y Y (v_fieldR (ov Y) tF70_0) <| Dq 3 Y Y Y (v_loadS_r (ov Y) tS68 Y) <| Dq 4 Y Y Y (v_move (ov Y)) <| Dq 5 Y Y Y (v_loadA_r (ov Y) tA70 Y Y) ?_
   obtain ⟨y2, h_y2, h⟩ := bnd h
   refine Dq 6 Y Y Y (v_call (ok_salvage_ahead h_y2) (.cons (ov Y) (.aggB Y) <| .nil)) ?_
   refine Dq 7 Y Y Y (v_add (ov Y) (ov Y) Y) ?_
   obtain ⟨y3, h_y3, h⟩ := bnd h
   refine Dq 8 Y Y Y (v_call (ok_salvage_halfOf h_y3) (.cons (ov Y) (.b Y) <| .cons (ov Y) (.b Y) <| .nil)) ?_
   obtain ⟨x, h_x, h⟩ := bnd h
   refine Dq 9 Y Y Y (v_ixOG (ov Y) (ov Y) tL68 Y Y h_x) ?_
   refine Do 10 Y Y Y (w_storeR (u' := y3) (ov Y) (ov Y) (cells_scal tS5) Y Y h_x Y (cell1_all Y) Y) ?_
   refine D_done (by kernel_rfl) ?_
   refine T_keep (kc 1 Y <| kc 3 Y <| kc 9 Y <| kc 10 Y <| kn) Y <| T_reg <| Rq Y (v_add (ov Y) (ov Y) Y) <| Rq Y (v_move (ov Y)) <| R_nil ?_
   exact ⟨((out2.set i.toNat y3), (i64 (i + 1))), h, Ent.sel [some 0] (sd 1 Y Y <| sr 3 Y (ownE (Eq.symm ((List.length_set ..).trans Y)) Y) <| sd 9 Y Y <| sd 10 Y Y <| sn) (.cons Y (roM D5) <| .nil) Y Y⟩
  ·
   refine T_exit ?_
   rw [lx h] at ho1
   replace h := ho1
   exact ⟨out2, h, Ent.sel [some 0] (sr 3 Y (.own _ Y) <| sn) (.cons Y (roM D5) <| .nil) Y Y⟩
 ·
  obtain ⟨out, rfl⟩ : ∃ x, x = j := ⟨_, rfl⟩
  replace h := t1i h
  refine t1T ?_
  refine Tr <| Rq Y (v_move (ov Y)) <| Rq Y (v_assign (ov Y)) <| R_nil ?_
  obtain rfl := rt (v := out) h
  refine T_ret (retq ?_ (.one (.tmp Y (View.ownM Y Y D5))))
  rfl

theorem ok_salvage_wordAt {h_ : List Int} {r : Int} (h : salvage_wordAt h_ = some r) :
  CSpec Tryz.prog gl0 252 [.sl 5 (List.map R5 h_)] (.int .u16 r) := by
 unfold salvage_wordAt at h
 replace h := bnd0 h
 refine spec_of (by kernel_rfl) Tryz.func252 Y Y ?_
 intro w0 A
 refine Tr <| Rq Y (v_assign (ov Y)) <| R_nil <| T_seq (T_draw (cw := md0) (by kernel_rfl) ?_)
 refine Dq 0 Y Y Y (v_move (ov Y)) ?_
 obtain ⟨x, h_x, h⟩ := bnd h
 refine Dq 1 Y Y Y (v_ixSG (ov Y) (ov Y) tL68 h_x) ?_
 refine Dq 2 Y Y Y (v_loadS_r (ov Y) tS5 Y) ?_
 refine Dq 3 Y Y Y (v_conv (ov Y) tI5 tI47 Y) ?_
 obtain ⟨q, h_q, h⟩ := bnd h
 refine Dq 4 Y Y Y (v_shlG (ov Y) (ov Y) h_q) ?_
 refine Dq 5 Y Y Y (v_move (ov Y)) ?_
 obtain ⟨x2, h_x2, h⟩ := bnd h
 refine Dq 6 Y Y Y (v_ixSG (ov Y) (ov Y) tL68 h_x2) ?_
 refine Dq 7 Y Y Y (v_loadS_r (ov Y) tS5 Y) ?_
 refine Dq 8 Y Y Y (v_conv (ov Y) tI5 tI47 Y) ?_
 obtain ⟨q2, h_q2, h⟩ := bnd h
 refine Dq 9 Y Y Y (v_shlG (ov Y) (ov Y) h_q2) ?_
 refine Dq 10 Y Y Y (v_or_ (ov Y) (ov Y)) ?_
 refine Dq 11 Y Y Y (v_move (ov Y)) ?_
 obtain ⟨x3, h_x3, h⟩ := bnd h
 refine Dq 12 Y Y Y (v_ixSG (ov Y) (ov Y) tL68 h_x3) ?_
 refine Dq 13 Y Y Y (v_loadS_r (ov Y) tS5 Y) ?_
 refine Dq 14 Y Y Y (v_conv (ov Y) tI5 tI47 Y) ?_
 refine Dq 15 Y Y Y (v_or_ (ov Y) (ov Y)) ?_
 refine Dq 16 Y Y Y (v_assign (ov Y)) ?_
 refine D_done (by kernel_rfl) ?_
 obtain rfl := rt (v := (bor .u16 (bor .u16 q q2) (u16 x3))) h
 refine T_ret (retq ?_ (.one (.tmp Y (Dat.view (.b Y)))))
 rfl

theorem ok_frame_Sync {number : Int} {r : Int × Int} (h : frame_Sync number = some r) :
  CSpec Tryz.prog gl0 278 [.int .i64 number] (.tuple [.int .i64 r.1, .int .i64 r.2]) := by
 unfold frame_Sync at h
 replace h := bnd0 h
 refine spec_of (by kernel_rfl) Tryz.func278 Y Y ?_
 intro w0 A
 refine Tr <| Rq Y (v_assign (ov Y)) <| Rq Y (v_assign (ov Y)) <| R_nil <| T_seq <| T_keep (kc 0 Y <| kn) Y <| Tr <| Rq Y (v_move (ov Y)) <| Rq Y (v_lss (ov Y) (ov Y)) <| Rq Y (v_move (ov Y)) <| Rq Y (.guarded ((decide (number < 0)) == false) Y Y Y Y fun h => v_move (ov Y)) <| Rq Y (.guarded ((decide (number < 0)) == false) Y Y Y Y fun h => v_geq (ow Y h) (ov Y)) <| Rq Y (v_or (ov Y) (fun hp => ow Y (gF hp))) <| R_nil <| T_keep (kc 0 Y <| kc 9 Y <| kn) Y <| T_if h Y (fun b9 h => ?_) (fun b9 h => ?_)
 ·
  refine T_keep (kn) Y <| Tr <| Rq Y (v_assign (ov Y)) <| Rq Y (v_assign (ov Y)) <| R_nil ?_
  obtain rfl := rt (v := (0, 9)) h
  refine T_ret (retq ?_ (.two (.tmp Y (Dat.view (.b Y))) (.tmp Y (Dat.view (.b Y)))))
  rfl
 ·
  refine T_skip <| T_keep (kc 0 Y <| kn) Y <| Tr <| Rq Y (v_move (ov Y)) ?_
  obtain ⟨q, h_q, h⟩ := bnd h
  refine Rq Y (v_remG (ov Y) (ov Y) h_q) ?_
  obtain ⟨x, h_x, h⟩ := bnd h
  refine Rq Y (v_ixRG (og (v := gv_frame_syncs) (k := .u16) (f := C47) (by simp [gl0]) (fun _ => Y)) (ov Y) tR250 h_x) ?_
  refine Rq Y (v_loadS_r (ov Y) tS47 (at_get (at_at (o := 0) (o' := (q.toNat * 1)) (at_all arL) (at_v1 h_x)))) ?_
  refine Rq Y (v_conv (ov Y) tI47 tI3 Y) ?_
  refine Rq Y (v_assign (ov Y)) ?_
  refine Rq Y (v_assign (ov Y)) ?_
  refine R_nil ?_
  obtain rfl := rt (v := ((i64 x), 0)) h
  refine T_ret (retq ?_ (.two (.tmp Y (Dat.view (.b Y))) (.tmp Y (Dat.view (.b Y)))))
  rfl

theorem ok_salvage_isSync {w : Int} {r : Bool} (h : salvage_isSync w = some r) :
  CSpec Tryz.prog gl0 251 [.int .u16 w] (.bool r) := by
 unfold salvage_isSync at h
 replace h := bnd0 h
 refine spec_of (by kernel_rfl) Tryz.func251 Y Y ?_
 intro w0 A
 refine Tr <| Rq Y (v_assign (ov Y)) <| R_nil <| T_joinG (fun j => (.inr j)) (t0 ⟨[], []⟩) h (fun h => ?_) (fun j h => ?_)
 ·
  refine T_keep (kc 0 Y <| kn) Y <| Tr <| Rq Y (v_move (ov Y)) <| R_nil <| T_block ?_
  obtain ⟨r1, hl1, ho1⟩ := bndL h
  refine T_loopG _ (t1 fun i => ⟨[(0, .int .u16 w), (6, .int .i64 i)], []⟩) _ hl1 (Ent.sel [] (sd 0 Y Y <| sd 6 Y Y <| sn) (.nil) Y Y) (fun n1 s1 h => ?_)
  obtain ⟨i, rfl⟩ : ∃ x, x = s1 := ⟨_, rfl⟩
  replace h := t1i h
  refine t1T ?_
  unfold salvage_isSync_L1 at h
  refine Tr <| Rq Y (v_lss (ov Y) (ov Y)) <| R_nil <| T_seq <| T_if h Y (fun b7 h => ?_) (fun b7 h => ?_)
  ·
   refine T_skip <| T_seq <| T_block <| T_keep (kc 0 Y <| kc 6 Y <| kn) Y <| Tr <| Rq Y (v_move (ov Y)) <| Rq Y (v_assign (ov Y)) <| R_nil <| T_keep (kc 0 Y <| kc 3 Y <| kc 6 Y <| kn) Y <| Tr <| Rq Y (v_move (ov Y)) ?_
   obtain ⟨y, h_y, h⟩ := bnd h
   refine Rq Y (v_call (ok_frame_Sync h_y) (.cons (ov Y) (.b Y) <| .nil)) ?_
   refine Rq Y (v_move (ov Y)) ?_
   refine Rq Y (v_extract (ov Y) Y) ?_
   refine Rq Y (v_extract (ov Y) Y) ?_
   refine Rq Y (v_assign (ov Y)) ?_
   refine Rq Y (v_assign (ov Y)) ?_
   refine R_nil <| T_keep (kc 0 Y <| kc 4 Y <| kc 6 Y <| kn) Y <| Tr <| Rq Y (v_move (ov Y)) <| Rq Y (v_conv (ov Y) tI3 tI47 Y) <| Rq Y (v_move (ov Y)) <| Rq Y (v_eql (ov Y) (ov Y)) <| R_nil <| T_keep (kc 0 Y <| kc 6 Y <| kc 17 Y <| kn) Y <| T_if h Y (fun b17 h => ?_) (fun b17 h => ?_)
   ·
    refine T_keep (kn) Y <| Tr <| Rq Y (v_assign (ov Y)) <| R_nil ?_
    rw [lx h] at ho1
    replace h := ho1
    obtain rfl := rt (v := true) h
    refine T_ret (retq ?_ (.one (.tmp Y (Dat.view (.b Y)))))
    rfl
   ·
    refine T_skip <| T_keep (kc 0 Y <| kc 6 Y <| kn) Y <| T_reg <| Rq Y (v_add (ov Y) (ov Y) Y) <| Rq Y (v_move (ov Y)) <| R_nil ?_
    exact ⟨(i64 (i + 1)), h, Ent.sel [] (sd 0 Y Y <| sd 6 Y Y <| sn) (.nil) Y Y⟩
  ·
   refine T_exit ?_
   rw [lx h] at ho1
   replace h := ho1
   exact ⟨(), h, Ent.sel [] (sn) (.nil) Y Y⟩
 ·
  replace h := elr h
  cases j
  replace h := t0i h
  refine t0T ?_
  refine Tr <| Rq Y (v_assign (ov Y)) <| R_nil ?_
  obtain rfl := rt (v := false) h
  refine T_ret (retq ?_ (.one (.tmp Y (Dat.view (.b Y)))))
  rfl

theorem ok_salvage_frameIn {w : Vector Int 192} {r : (Vector Int 64)} (h : salvage_frameIn w = some r) :
  CSpec Tryz.prog gl0 253 [.agg (List.map C5 w.toList)] (.agg (List.map C47 r.toList)) := by
 unfold salvage_frameIn at h
 replace h := bnd0 h
 refine spec_of (by kernel_rfl) Tryz.func253 Y Y ?_
 intro w0 A
 refine Tr <| Rq Y (v_boxD (cva (ov Y)) arL tZ_284 (arD fun _ => Y)) <| Rx Y (w_alloc (row := (List.map C47 (Vector.replicate 64 0).toList)) 0 Y tZ49 Y tZ_49) <| R_nil <| T_keep (kc 1 Y <| kc 2 Y <| kn) Y <| Tr <| Rx Y (w_alloc (row := (List.map C47 (Vector.replicate 64 0).toList)) 1 Y tZ49 Y tZ_49) <| R_nil <| T_joinG id (t1 fun f => ⟨[(2, .ptr 0 1 0 0), (3, .ptr 1 1 0 0)], [some ⟨49, [(List.map C47 (Vector.replicate 64 0).toList)]⟩, some ⟨49, [(List.map C47 f.toList)]⟩]⟩) h (fun h => ?_) (fun j h => ?_)
 ·
  refine Tr <| Rq Y (v_move (ov Y)) <| R_nil <| T_block ?_
  obtain ⟨r1, hl1, ho1⟩ := bndL h
  refine T_loopG _ (t2 fun f2 i => ⟨[(1, .rp (List.map C5 w.toList) 0), (2, .ptr 0 1 0 0), (3, .ptr 1 1 0 0), (5, .int .i64 i)], [some ⟨49, [(List.map C47 (Vector.replicate 64 0).toList)]⟩, some ⟨49, [(List.map C47 f2.toList)]⟩]⟩) _ hl1 (Ent.sel [some 0, some 1] (sd 1 Y Y <| sr 2 Y (.ptr _ _ _ Y) <| sr 3 Y (.ptr _ _ _ Y) <| sd 5 Y Y <| sn) (.cons Y (ro1 (by exact Eq.trans (b := 64) arL tZ_49.symm) (rld (arD fun _ => Y))) <| .cons Y (ro1 (by exact Eq.trans (b := 64) arL tZ_49.symm) (rld (arD fun _ => Y))) <| .nil) Y Y) (fun n1 s1 h => ?_)
  obtain ⟨f2, i⟩ := s1
  replace h := t2i h
  refine t2T ?_
  unfold salvage_frameIn_L1 at h
  refine Tr <| Rq Y (v_lss (ov Y) (ov Y)) <| R_nil <| T_seq <| T_if h Y (fun b6 h => ?_) (fun b6 h => ?_)
  ·
   refine T_skip <| T_seq <| T_block <| T_keep (kc 1 Y <| kc 2 Y <| kc 3 Y <| kc 5 Y <| kn) Y <| Tr <| Rq Y (v_move (ov Y)) <| Rq Y (v_assign (ov Y)) <| R_nil <| T_keep (kc 1 Y <| kc 2 Y <| kc 3 Y <| kc 4 Y <| kc 5 Y <| kn) Y <| T_reg <| Rq Y (v_move (ov Y)) <| Rq Y (v_move (ov Y)) <| Rq Y (v_mul (ov Y) (ov Y) Y) <| Rq Y (v_move (ov Y)) <| Rq Y (v_mul (ov Y) (ov Y) Y) <| Rq Y (v_add (ov Y) (ov Y) Y) ?_
   obtain ⟨l, h_l, h⟩ := bnd h
   refine Rq Y (v_slR (f := C5) (ov Y) tR284 tZ_5 (at_all arL) Y (oi (ov Y)) (oi (ov Y)) h_l) ?_
   obtain ⟨y, h_y, h⟩ := bnd h
   refine Rq Y (v_call (ok_salvage_wordAt h_y) (.cons (ov Y) (.b Y) <| .nil)) ?_
   obtain ⟨x, h_x, h⟩ := bnd h
   refine Rq Y (v_ixAG (ov Y) (ov Y) tR49 Y Y h_x) ?_
   refine Rx Y (w_store (ov Y) (ov Y) (cells_scal tS47) Y Y Y (arB h_x) (cell1_all Y) (arS h_x)) ?_
   refine R_nil <| T_keep (kc 1 Y <| kc 2 Y <| kc 3 Y <| kc 5 Y <| kn) Y <| T_reg <| Rq Y (v_add (ov Y) (ov Y) Y) <| Rq Y (v_move (ov Y)) <| R_nil ?_
   exact ⟨((vset f2 i y), (i64 (i + 1))), h, Ent.sel [some 0, some 1] (sd 1 Y Y <| sr 2 Y (.ptr _ _ _ Y) <| sr 3 Y (.ptr _ _ _ Y) <| sd 5 Y Y <| sn) (.cons Y (ro1 (by exact Eq.trans (b := 64) arL tZ_49.symm) (rld (arD fun _ => Y))) <| .cons Y (ro1 (by exact Eq.trans (b := 64) arL tZ_49.symm) (rld (arD fun _ => Y))) <| .nil) Y Y⟩
  ·
   refine T_exit ?_
   rw [lx h] at ho1
   replace h := ho1
   exact ⟨f2, h, Ent.sel [some 0, some 1] (sr 2 Y (.ptr _ _ _ Y) <| sr 3 Y (.ptr _ _ _ Y) <| sn) (.cons Y (ro1 (by exact Eq.trans (b := 64) arL tZ_49.symm) (rld (arD fun _ => Y))) <| .cons Y (ro1 (by exact Eq.trans (b := 64) arL tZ_49.symm) (rld (arD fun _ => Y))) <| .nil) Y Y⟩
 ·
  obtain ⟨f, rfl⟩ : ∃ x, x = j := ⟨_, rfl⟩
  replace h := t1i h
  refine t1T ?_
  refine Tr <| Rq Y (v_loadA (ov Y) Y Y Y tA49 (at_sub (at_all arL)) arL (hns := (nsM fun _ => Y))) <| Rx Y (w_store (ov Y) (ov Y) (cells_agg tA49 arL) Y Y Y (put_le (at_all arL) arL) (cell1_all (arC fun _ => Y)) (put_all (Eq.trans arL (Eq.symm arL)))) <| R_nil ?_
  obtain rfl := rt (v := f) h
  refine T_ret (retq ?_ (.one (.agg Y Y Y Y tA49 (at_sub (at_all arL)) arL (pwB (arD fun _ => Y)) (hns := (nsM fun _ => Y)))))
  rfl

theorem ok_frame_wide {f : Vector Int 64} {r : Bool} (h : frame_wide f = some r) :
  CSpec Tryz.prog gl0 257 [.rp (List.map C47 f.toList) 0] (.bool r) := by
 unfold frame_wide at h
 replace h := bnd0 h
 refine spec_of (by kernel_rfl) Tryz.func257 Y Y ?_
 intro w0 A
 refine Tr <| Rq Y (v_assign (ov Y)) <| R_nil <| T_joinG (fun j => (.inr j)) (t0 ⟨[], []⟩) h (fun h => ?_) (fun j h => ?_)
 ·
  refine T_keep (kc 0 Y <| kn) Y <| Tr <| Rq Y (v_move (ov Y)) <| R_nil <| T_block ?_
  obtain ⟨r1, hl1, ho1⟩ := bndL h
  refine T_loopG _ (t1 fun i => ⟨[(0, .rp (List.map C47 f.toList) 0), (4, .int .i64 i)], []⟩) _ hl1 (Ent.sel [] (sd 0 Y Y <| sd 4 Y Y <| sn) (.nil) Y Y) (fun n1 s1 h => ?_)
  obtain ⟨i, rfl⟩ : ∃ x, x = s1 := ⟨_, rfl⟩
  replace h := t1i h
  refine t1T ?_
  unfold frame_wide_L1 at h
  refine Tr <| Rq Y (v_lss (ov Y) (ov Y)) <| R_nil <| T_seq <| T_if h Y (fun b5 h => ?_) (fun b5 h => ?_)
  ·
   refine T_skip <| T_seq <| T_block <| T_keep (kc 0 Y <| kc 4 Y <| kn) Y <| Tr <| Rq Y (v_move (ov Y)) <| Rq Y (v_assign (ov Y)) <| R_nil <| T_keep (kc 0 Y <| kc 3 Y <| kc 4 Y <| kn) Y <| Tr <| Rq Y (v_move (ov Y)) <| Rq Y (v_move (ov Y)) <| Rq Y (v_nilCheckR (ov Y)) ?_
   obtain ⟨x, h_x, h⟩ := bnd h
   refine Rq Y (v_ixRG (ov Y) (ov Y) tR49 h_x) ?_
   refine Rq Y (v_loadS_r (ov Y) tS47 (at_get (at_at (o := 0) (o' := (i.toNat * 1)) (at_all arL) (at_v1 h_x)))) ?_
   refine Rq Y (v_gtr (ov Y) (ov Y)) ?_
   refine R_nil <| T_keep (kc 0 Y <| kc 4 Y <| kc 12 Y <| kn) Y <| T_if h Y (fun b12 h => ?_) (fun b12 h => ?_)
   ·
    refine T_keep (kn) Y <| Tr <| Rq Y (v_assign (ov Y)) <| R_nil ?_
    rw [lx h] at ho1
    replace h := ho1
    obtain rfl := rt (v := true) h
    refine T_ret (retq ?_ (.one (.tmp Y (Dat.view (.b Y)))))
    rfl
   ·
    refine T_skip <| T_keep (kc 0 Y <| kc 4 Y <| kn) Y <| T_reg <| Rq Y (v_add (ov Y) (ov Y) Y) <| Rq Y (v_move (ov Y)) <| R_nil ?_
    exact ⟨(i64 (i + 1)), h, Ent.sel [] (sd 0 Y Y <| sd 4 Y Y <| sn) (.nil) Y Y⟩
  ·
   refine T_exit ?_
   rw [lx h] at ho1
   replace h := ho1
   exact ⟨(), h, Ent.sel [] (sn) (.nil) Y Y⟩
 ·
  replace h := elr h
  cases j
  replace h := t0i h
  refine t0T ?_
  refine Tr <| Rq Y (v_assign (ov Y)) <| R_nil ?_
  obtain rfl := rt (v := false) h
  refine T_ret (retq ?_ (.one (.tmp Y (Dat.view (.b Y)))))
  rfl

theorem ok_frame_data {w : Int} {r : Int} (h : frame_data w = some r) :
  CSpec Tryz.prog gl0 262 [.int .u16 w] (.int .i64 r) := by
 unfold frame_data at h
 replace h := bnd0 h
 refine spec_of (by kernel_rfl) Tryz.func262 Y Y ?_
 intro w0 A
 refine Tr <| Rq Y (v_assign (ov Y)) <| R_nil <| Tr <| Rq Y (v_move (ov Y)) <| Rq Y (v_and_ (ov Y) (ov Y)) <| Rq Y (v_conv (ov Y) tI47 tI3 Y) <| Rq Y (v_assign (ov Y)) <| R_nil ?_
 obtain rfl := rt (v := (i64 (band .u16 w 2047))) h
 refine T_ret (retq ?_ (.one (.tmp Y (Dat.view (.b Y)))))
 rfl

theorem ok_frame_numberOf {f : Vector Int 64} {r : Int} (h : frame_numberOf f = some r) :
  CSpec Tryz.prog gl0 215 [.rp (List.map C47 f.toList) 0] (.int .i64 r) := by
 unfold frame_numberOf at h
 replace h := bnd0 h
 refine spec_of (by kernel_rfl) Tryz.func215 Y Y ?_
 intro w0 A
 refine Tr <| Rq Y (v_assign (ov Y)) <| R_nil <| T_seq (T_draw (cw := md0) (by kernel_rfl) ?_)
 refine Dq 0 Y Y Y (v_move (ov Y)) ?_
 refine Dq 1 Y Y Y (v_nilCheckR (ov Y)) ?_
 obtain ⟨x, h_x, h⟩ := bnd h
 refine Dq 2 Y Y Y (v_ixRG (ov Y) (ov Y) tR49 h_x) ?_
 refine Dq 3 Y Y Y (v_loadS_r (ov Y) tS47 (at_get (at_at (o := 0) (o' := ((Int.toNat 1) * 1)) (at_all arL) (at_v1 h_x)))) ?_
 obtain ⟨y, h_y, h⟩ := bnd h
 refine Dq 4 Y Y Y (v_call (ok_frame_data h_y) (.cons (ov Y) (.b Y) <| .nil)) ?_
 refine Dq 5 Y Y Y (v_move (ov Y)) ?_
 refine Dq 6 Y Y Y (v_nilCheckR (ov Y)) ?_
 obtain ⟨x2, h_x2, h⟩ := bnd h
 refine Dq 7 Y Y Y (v_ixRG (ov Y) (ov Y) tR49 h_x2) ?_
 refine Dq 8 Y Y Y (v_loadS_r (ov Y) tS47 (at_get (at_at (o := 0) (o' := ((Int.toNat 2) * 1)) (at_all arL) (at_v1 h_x2)))) ?_
 obtain ⟨y2, h_y2, h⟩ := bnd h
 refine Dq 9 Y Y Y (v_call (ok_frame_data h_y2) (.cons (ov Y) (.b Y) <| .nil)) ?_
 obtain ⟨q, h_q, h⟩ := bnd h
 refine Dq 10 Y Y Y (v_shlG (ov Y) (ov Y) h_q) ?_
 refine Dq 11 Y Y Y (v_or_ (ov Y) (ov Y)) ?_
 refine Dq 12 Y Y Y (v_assign (ov Y)) ?_
 refine D_done (by kernel_rfl) ?_
 obtain rfl := rt (v := (bor .i64 y q)) h
 refine T_ret (retq ?_ (.one (.tmp Y (Dat.view (.b Y)))))
 rfl

theorem ok_frame_sumOf {f : Vector Int 64} {r : Int} (h : frame_sumOf f = some r) :
  CSpec Tryz.prog gl0 216 [.rp (List.map C47 f.toList) 0] (.int .i64 r) := by
 unfold frame_sumOf at h
 replace h := bnd0 h
 refine spec_of (by kernel_rfl) Tryz.func216 Y Y ?_
 intro w0 A
 refine Tr <| Rq Y (v_assign (ov Y)) <| R_nil <| T_keep (kc 0 Y <| kn) Y <| Tr <| Rq Y (v_assign (ov Y)) <| R_nil <| T_joinG id (t1 fun n => ⟨[(3, .int .i64 n)], []⟩) h (fun h => ?_) (fun j h => ?_)
 ·
  refine Tr <| Rq Y (v_move (ov Y)) <| R_nil <| T_block ?_
  obtain ⟨r1, hl1, ho1⟩ := bndL h
  refine T_loopG _ (t2 fun n2 i => ⟨[(0, .rp (List.map C47 f.toList) 0), (3, .int .i64 n2), (5, .int .i64 i)], []⟩) _ hl1 (Ent.sel [] (sd 0 Y Y <| sd 3 Y Y <| sd 5 Y Y <| sn) (.nil) Y Y) (fun n1 s1 h => ?_)
  obtain ⟨n2, i⟩ := s1
  replace h := t2i h
  refine t2T ?_
  unfold frame_sumOf_L1 at h
  refine Tr <| Rq Y (v_lss (ov Y) (ov Y)) <| R_nil <| T_seq <| T_if h Y (fun b6 h => ?_) (fun b6 h => ?_)
  ·
   refine T_skip <| T_seq <| T_block <| T_keep (kc 0 Y <| kc 3 Y <| kc 5 Y <| kn) Y <| Tr <| Rq Y (v_move (ov Y)) <| Rq Y (v_assign (ov Y)) <| R_nil <| T_keep (kc 0 Y <| kc 3 Y <| kc 4 Y <| kc 5 Y <| kn) Y <| T_reg <| Rq Y (v_move (ov Y)) <| Rq Y (v_move (ov Y)) <| Rq Y (v_move (ov Y)) <| Rq Y (v_add (ov Y) (ov Y) Y) <| Rq Y (v_nilCheckR (ov Y)) ?_
   obtain ⟨x, h_x, h⟩ := bnd h
   refine Rq Y (v_ixRG (ov Y) (ov Y) tR49 h_x) ?_
   refine Rq Y (v_loadS_r (ov Y) tS47 (at_get (at_at (o := 0) (o' := ((i64 (i + 1)).toNat * 1)) (at_all arL) (at_v1 h_x)))) ?_
   obtain ⟨y, h_y, h⟩ := bnd h
   refine Rq Y (v_call (ok_frame_data h_y) (.cons (ov Y) (.b Y) <| .nil)) ?_
   refine Rq Y (v_xor_ (ov Y) (ov Y)) ?_
   refine Rq Y (v_assign (ov Y)) ?_
   refine R_nil <| T_keep (kc 0 Y <| kc 3 Y <| kc 5 Y <| kn) Y <| T_reg <| Rq Y (v_add (ov Y) (ov Y) Y) <| Rq Y (v_move (ov Y)) <| R_nil ?_
   exact ⟨((bxor .i64 n2 y), (i64 (i + 1))), h, Ent.sel [] (sd 0 Y Y <| sd 3 Y Y <| sd 5 Y Y <| sn) (.nil) Y Y⟩
  ·
   refine T_exit ?_
   rw [lx h] at ho1
   replace h := ho1
   exact ⟨n2, h, Ent.sel [] (sd 3 Y Y <| sn) (.nil) Y Y⟩
 ·
  obtain ⟨n, rfl⟩ : ∃ x, x = j := ⟨_, rfl⟩
  replace h := t1i h
  refine t1T ?_
  refine Tr <| Rq Y (v_move (ov Y)) <| Rq Y (v_assign (ov Y)) <| R_nil ?_
  obtain rfl := rt (v := n) h
  refine T_ret (retq ?_ (.one (.tmp Y (Dat.view (.b Y)))))
  rfl

theorem ok_bits_OnesCount16 {x : Int} {r : Int} (h : bits_OnesCount16 x = some r) :
  CSpec Tryz.prog gl0 261 [.int .u16 x] (.int .i64 r) := by
 unfold bits_OnesCount16 at h
 replace h := bnd0 h
 refine spec_of (by kernel_rfl) Tryz.func261 Y Y ?_
 intro w0 A
 refine Tr <| Rq Y (v_assign (ov Y)) <| R_nil <| T_seq (T_draw (cw := md0) (by kernel_rfl) ?_)
 refine Dq 0 Y Y Y (v_move (ov Y)) ?_
 obtain ⟨q, h_q, h⟩ := bnd h
 refine Dq 1 Y Y Y (v_shrG (ov Y) (ov Y) h_q) ?_
 obtain ⟨b, h_b, h⟩ := bnd h
 refine Dq 2 Y Y Y (v_idxStr (ov Y) (ov Y) tStr9 h_b) ?_
 refine Dq 3 Y Y Y (v_move (ov Y)) ?_
 refine Dq 4 Y Y Y (v_and_ (ov Y) (ov Y)) ?_
 obtain ⟨b2, h_b2, h⟩ := bnd h
 refine Dq 5 Y Y Y (v_idxStr (ov Y) (ov Y) tStr9 h_b2) ?_
 refine Dq 6 Y Y Y (v_add (ov Y) (ov Y) Y) ?_
 refine Dq 7 Y Y Y (v_conv (ov Y) tI5 tI3 Y) ?_
 refine Dq 8 Y Y Y (v_assign (ov Y)) ?_
 refine D_done (by kernel_rfl) ?_
 obtain rfl := rt (v := (i64 (u8 (b + b2)))) h
 refine T_ret (retq ?_ (.one (.tmp Y (Dat.view (.b Y)))))
 rfl

theorem ok_frame_odd {w : Int} {r : Bool} (h : frame_odd w = some r) :
  CSpec Tryz.prog gl0 214 [.int .u16 w] (.bool r) := by
 unfold frame_odd at h
 replace h := bnd0 h
 refine spec_of (by kernel_rfl) Tryz.func214 Y Y ?_
 intro w0 A
 refine Tr <| Rq Y (v_assign (ov Y)) <| R_nil <| Tr <| Rq Y (v_move (ov Y)) <| Rq Y (v_leq (ov Y) (ov Y)) <| Rq Y (v_move (ov Y)) <| Rq Y (.guarded ((decide (w ≤ 4095)) == true) Y Y Y Y fun h => v_move (ov Y)) ?_
 obtain ⟨y, h_y, h⟩ := bnd h
 refine Rq Y (.guarded ((decide (w ≤ 4095)) == true) Y Y Y Y fun h => v_call (ok_bits_OnesCount16 (gdT h_y h)) (.cons (ow Y h) (.b Y) <| .nil)) ?_
 obtain ⟨q, h_q, h⟩ := bnd h
 refine Rq Y (.guarded ((decide (w ≤ 4095)) == true) Y Y Y Y fun h => v_remG (ow Y h) (ov Y) (gdT h_q h)) ?_
 refine Rq Y (.guarded ((decide (w ≤ 4095)) == true) Y Y Y Y fun h => v_eql (ow Y h) (ov Y)) ?_
 refine Rq Y (v_and (ov Y) (fun hp => ow Y (gT hp))) ?_
 refine Rq Y (v_assign (ov Y)) ?_
 refine R_nil ?_
 obtain rfl := rt (v := ((decide (w ≤ 4095)) && (decide (q = 1)))) h
 refine T_ret (retq ?_ (.one (.tmp Y (Dat.view (.b Y)))))
 rfl

theorem ok_frame_checkOf {f : Vector Int 64} {r : Int} (h : frame_checkOf f = some r) :
  CSpec Tryz.prog gl0 217 [.rp (List.map C47 f.toList) 0] (.int .i64 r) := by
 unfold frame_checkOf at h
 replace h := bnd0 h
 refine spec_of (by kernel_rfl) Tryz.func217 Y Y ?_
 intro w0 A
 refine Tr <| Rq Y (v_assign (ov Y)) <| R_nil <| T_keep (kc 0 Y <| kn) Y <| Tr <| Rq Y (v_assign (ov Y)) <| R_nil <| T_joinG id (t1 fun n => ⟨[(3, .int .i64 n)], []⟩) h (fun h => ?_) (fun j h => ?_)
 ·
  refine Tr <| Rq Y (v_move (ov Y)) <| R_nil <| T_block ?_
  obtain ⟨r1, hl1, ho1⟩ := bndL h
  refine T_loopG _ (t2 fun n2 i => ⟨[(0, .rp (List.map C47 f.toList) 0), (3, .int .i64 n2), (7, .int .i64 i)], []⟩) _ hl1 (Ent.sel [] (sd 0 Y Y <| sd 3 Y Y <| sd 7 Y Y <| sn) (.nil) Y Y) (fun n1 s1 h => ?_)
  obtain ⟨n2, i⟩ := s1
  replace h := t2i h
  refine t2T ?_
  unfold frame_checkOf_L1 at h
  refine Tr <| Rq Y (v_lss (ov Y) (ov Y)) <| R_nil <| T_seq <| T_if h Y (fun b8 h => ?_) (fun b8 h => ?_)
  ·
   refine T_skip <| T_joinG id (t1 fun n3 => ⟨[(0, .rp (List.map C47 f.toList) 0), (3, .int .i64 n3), (7, .int .i64 i)], []⟩) h (fun h => ?_) (fun j h => ?_)
   ·
    refine T_block <| T_keep (kc 0 Y <| kc 3 Y <| kc 7 Y <| kn) Y <| Tr <| Rq Y (v_move (ov Y)) <| Rq Y (v_assign (ov Y)) <| R_nil <| T_keep (kc 0 Y <| kc 3 Y <| kc 4 Y <| kc 7 Y <| kn) Y <| Tr <| Rq Y (v_assign (ov Y)) <| R_nil <| T_block ?_
    obtain ⟨r2, hl2, ho2⟩ := bndL h
    refine T_loopG _ (t2 fun n4 k => ⟨[(0, .rp (List.map C47 f.toList) 0), (3, .int .i64 n4), (4, .int .i64 i), (5, .int .i64 k), (7, .int .i64 i)], []⟩) _ hl2 (Ent.sel [] (sd 0 Y Y <| sd 3 Y Y <| sd 4 Y Y <| sd 5 Y Y <| sd 7 Y Y <| sn) (.nil) Y Y) (fun n2 s2 h => ?_)
    obtain ⟨n4, k⟩ := s2
    replace h := t2i h
    refine t2T ?_
    unfold frame_checkOf_L2 at h
    refine T_seq <| Tr <| Rq Y (v_move (ov Y)) <| Rq Y (v_geq (ov Y) (ov Y)) <| R_nil <| T_keep (kc 0 Y <| kc 3 Y <| kc 4 Y <| kc 5 Y <| kc 7 Y <| kc 11 Y <| kn) Y <| T_if h Y (fun b11 h => ?_) (fun b11 h => ?_)
    ·
     refine T_skip <| T_seq <| T_block <| T_keep (kc 0 Y <| kc 3 Y <| kc 4 Y <| kc 5 Y <| kc 7 Y <| kn) Y <| Tr <| Rq Y (v_move (ov Y)) <| Rq Y (v_and_ (ov Y) (ov Y)) <| Rq Y (v_neq (ov Y) (ov Y)) <| Rq Y (v_assign (ov Y)) <| R_nil <| T_keep (kc 0 Y <| kc 3 Y <| kc 4 Y <| kc 5 Y <| kc 6 Y <| kc 7 Y <| kn) Y <| Tr <| Rq Y (v_move (ov Y)) ?_
     obtain ⟨q, h_q, h⟩ := bnd h
     refine Rq Y (v_shlG (ov Y) (ov Y) h_q) ?_
     refine Rq Y (v_and_ (ov Y) (ov Y)) ?_
     refine Rq Y (v_assign (ov Y)) ?_
     refine R_nil <| T_keep (kc 0 Y <| kc 3 Y <| kc 4 Y <| kc 5 Y <| kc 6 Y <| kc 7 Y <| kn) Y <| Tr <| Rq Y (v_move (ov Y)) <| Rq Y (v_move (ov Y)) <| Rq Y (v_move (ov Y)) <| Rq Y (v_nilCheckR (ov Y)) ?_
     obtain ⟨x, h_x, h⟩ := bnd h
     refine Rq Y (v_ixRG (ov Y) (ov Y) tR49 h_x) ?_
     refine Rq Y (v_loadS_r (ov Y) tS47 (at_get (at_at (o := 0) (o' := (i.toNat * 1)) (at_all arL) (at_v1 h_x)))) ?_
     refine Rq Y (v_move (ov Y)) ?_
     obtain ⟨q2, h_q2, h⟩ := bnd h
     refine Rq Y (v_shrG (ov Y) (ov Y) h_q2) ?_
     refine Rq Y (v_and_ (ov Y) (ov Y)) ?_
     refine Rq Y (v_eql (ov Y) (ov Y)) ?_
     refine Rq Y (tBool_eq .neq (by simp) (ov Y) (ov Y) tB4) ?_
     refine R_nil <| T_keep (kc 0 Y <| kc 3 Y <| kc 4 Y <| kc 5 Y <| kc 7 Y <| kc 30 Y <| kn) Y <| T_if h Y (fun b30 h => ?_) (fun b30 h => ?_)
     ·
      refine T_keep (kc 0 Y <| kc 3 Y <| kc 4 Y <| kc 5 Y <| kc 7 Y <| kn) Y <| T_reg <| Rq Y (v_move (ov Y)) <| Rq Y (v_xor_ (ov Y) (ov Y)) <| Rq Y (v_assign (ov Y)) <| R_nil <| T_keep (kc 0 Y <| kc 3 Y <| kc 4 Y <| kc 5 Y <| kc 7 Y <| kn) Y <| T_reg <| Rq Y (v_move (ov Y)) <| Rq Y (v_sub (ov Y) (ov Y) Y) <| Rq Y (v_assign (ov Y)) <| R_nil ?_
      exact ⟨((bxor .i64 (band .i64 q 4194303) 2097167), (i64 (k - 1))), h, Ent.sel [] (sd 0 Y Y <| sd 3 Y Y <| sd 4 Y Y <| sd 5 Y Y <| sd 7 Y Y <| sn) (.nil) Y Y⟩
     ·
      refine T_skip <| T_keep (kc 0 Y <| kc 3 Y <| kc 4 Y <| kc 5 Y <| kc 7 Y <| kn) Y <| T_reg <| Rq Y (v_move (ov Y)) <| Rq Y (v_sub (ov Y) (ov Y) Y) <| Rq Y (v_assign (ov Y)) <| R_nil ?_
      exact ⟨((band .i64 q 4194303), (i64 (k - 1))), h, Ent.sel [] (sd 0 Y Y <| sd 3 Y Y <| sd 4 Y Y <| sd 5 Y Y <| sd 7 Y Y <| sn) (.nil) Y Y⟩
    ·
     refine T_exit ?_
     rw [lx h] at ho2
     replace h := ho2
     exact ⟨n4, h, Ent.sel [] (sd 0 Y Y <| sd 3 Y Y <| sd 7 Y Y <| sn) (.nil) Y Y⟩
   ·
    obtain ⟨n3, rfl⟩ : ∃ x, x = j := ⟨_, rfl⟩
    replace h := t1i h
    refine t1T ?_
    refine T_reg <| Rq Y (v_add (ov Y) (ov Y) Y) <| Rq Y (v_move (ov Y)) <| R_nil ?_
    exact ⟨(n3, (i64 (i + 1))), h, Ent.sel [] (sd 0 Y Y <| sd 3 Y Y <| sd 7 Y Y <| sn) (.nil) Y Y⟩
  ·
   refine T_exit ?_
   rw [lx h] at ho1
   replace h := ho1
   exact ⟨n2, h, Ent.sel [] (sd 3 Y Y <| sn) (.nil) Y Y⟩
 ·
  obtain ⟨n, rfl⟩ : ∃ x, x = j := ⟨_, rfl⟩
  replace h := t1i h
  refine t1T ?_
  refine Tr <| Rq Y (v_move (ov Y)) <| Rq Y (v_assign (ov Y)) <| R_nil ?_
  obtain rfl := rt (v := n) h
  refine T_ret (retq ?_ (.one (.tmp Y (Dat.view (.b Y)))))
  rfl

theorem ok_frame_sound {f : Vector Int 64} {r : Bool} (h : frame_sound f = some r) :
  CSpec Tryz.prog gl0 259 [.rp (List.map C47 f.toList) 0] (.bool r) := by
 unfold frame_sound at h
 replace h := bnd0 h
 refine spec_of (by kernel_rfl) Tryz.func259 Y Y ?_
 intro w0 A
 refine Tr <| Rq Y (v_assign (ov Y)) <| R_nil <| T_seq <| T_keep (kc 0 Y <| kn) Y <| T_seq (T_draw (cw := md0) (by kernel_rfl) ?_)
 refine Dq 0 Y Y Y (v_move (ov Y)) ?_
 obtain ⟨y, h_y, h⟩ := bnd h
 refine Dq 1 Y Y Y (v_call (ok_frame_wide h_y) (.cons (ov Y) (.b Y) <| .nil)) ?_
 refine Dq 2 Y Y Y (v_move (ov Y)) ?_
 refine Dq 3 Y Y Y (.guarded (y == false) Y Y Y Y fun h => v_move (ov Y)) ?_
 refine Dq 4 Y Y Y (.guarded (y == false) Y Y Y Y fun h => v_nilCheckR (ow Y h)) ?_
 obtain ⟨x, h_x, h⟩ := bnd h
 refine Dq 5 Y Y Y (.guarded (y == false) Y Y Y Y fun h => v_ixRG (ow Y h) (ov Y) tR49 (gdT h_x h)) ?_
 refine Dq 6 Y Y Y (.guarded (y == false) Y Y Y Y fun h => v_loadS_r (ow Y h) tS47 (at_get (at_at (o := 0) (o' := ((Int.toNat 0) * 1)) (at_all arL) (at_v1 (gdT h_x h))))) ?_
 refine Dq 7 Y Y Y (.guarded (y == false) Y Y Y Y fun h => v_move (ov Y)) ?_
 obtain ⟨y2, h_y2, h⟩ := bnd h
 refine Dq 8 Y Y Y (.guarded (y == false) Y Y Y Y fun h => v_call (ok_frame_numberOf (gdT h_y2 h)) (.cons (ow Y h) (.b Y) <| .nil)) ?_
 obtain ⟨q, h_q, h⟩ := bnd h
 refine Dq 9 Y Y Y (.guarded (y == false) Y Y Y Y fun h => v_remG (ow Y h) (ov Y) (gdT h_q h)) ?_
 obtain ⟨x2, h_x2, h⟩ := bnd h
 refine Dq 10 Y Y Y (.guarded (y == false) Y Y Y Y fun h => v_ixRG (og (v := gv_frame_syncs) (k := .u16) (f := C47) (by simp [gl0]) (fun _ => Y)) (ow Y h) tR250 (gdT h_x2 h)) ?_
 refine Dq 11 Y Y Y (.guarded (y == false) Y Y Y Y fun h => v_loadS_r (ow Y h) tS47 (at_get (at_at (o := 0) (o' := (q.toNat * 1)) (at_all arL) (at_v1 (gdT h_x2 h))))) ?_
 refine Dq 12 Y Y Y (.guarded (y == false) Y Y Y Y fun h => v_neq (ow Y h) (ow Y h)) ?_
 refine Dq 13 Y Y Y (v_or (ov Y) (fun hp => ow Y (gF hp))) ?_
 refine Dq 14 Y Y Y (v_move (ov Y)) ?_
 refine Dq 15 Y Y Y (.guarded ((y || (!decide (x = x2))) == false) Y Y Y Y fun h => v_move (ov Y)) ?_
 refine Dq 16 Y Y Y (.guarded ((y || (!decide (x = x2))) == false) Y Y Y Y fun h => v_nilCheckR (ow Y h)) ?_
 obtain ⟨x3, h_x3, h⟩ := bnd h
 refine Dq 17 Y Y Y (.guarded ((y || (!decide (x = x2))) == false) Y Y Y Y fun h => v_ixRG (ow Y h) (ov Y) tR49 (gdT h_x3 h)) ?_
 refine Dq 18 Y Y Y (.guarded ((y || (!decide (x = x2))) == false) Y Y Y Y fun h => v_loadS_r (ow Y h) tS47 (at_get (at_at (o := 0) (o' := ((Int.toNat 61) * 1)) (at_all arL) (at_v1 (gdT h_x3 h))))) ?_
 obtain ⟨y3, h_y3, h⟩ := bnd h
 refine Dq 19 Y Y Y (.guarded ((y || (!decide (x = x2))) == false) Y Y Y Y fun h => v_call (ok_frame_data (gdT h_y3 h)) (.cons (ow Y h) (.b Y) <| .nil)) ?_
 refine Dq 20 Y Y Y (.guarded ((y || (!decide (x = x2))) == false) Y Y Y Y fun h => v_move (ov Y)) ?_
 obtain ⟨y4, h_y4, h⟩ := bnd h
 refine Dq 21 Y Y Y (.guarded ((y || (!decide (x = x2))) == false) Y Y Y Y fun h => v_call (ok_frame_sumOf (gdT h_y4 h)) (.cons (ow Y h) (.b Y) <| .nil)) ?_
 refine Dq 22 Y Y Y (.guarded ((y || (!decide (x = x2))) == false) Y Y Y Y fun h => v_neq (ow Y h) (ow Y h)) ?_
 refine Dq 23 Y Y Y (v_or (ov Y) (fun hp => ow Y (gF hp))) ?_
 refine D_done (by kernel_rfl) ?_
 refine T_keep (kc 0 Y <| kc 27 Y <| kn) Y <| T_if h Y (fun b27 h => ?_) (fun b27 h => ?_)
 ·
  refine T_keep (kn) Y <| Tr <| Rq Y (v_assign (ov Y)) <| R_nil ?_
  obtain rfl := rt (v := false) h
  refine T_ret (retq ?_ (.one (.tmp Y (Dat.view (.b Y)))))
  rfl
 ·
  refine T_skip <| T_joinG (fun j => (.inr j)) (t0 ⟨[(0, .rp (List.map C47 f.toList) 0)], []⟩) h (fun h => ?_) (fun j h => ?_)
  ·
   refine T_keep (kc 0 Y <| kn) Y <| Tr <| Rq Y (v_assign (ov Y)) <| R_nil <| T_block ?_
   obtain ⟨r1, hl1, ho1⟩ := bndL h
   refine T_loopG _ (t1 fun i => ⟨[(0, .rp (List.map C47 f.toList) 0), (3, .int .i64 i)], []⟩) _ hl1 (Ent.sel [] (sd 0 Y Y <| sd 3 Y Y <| sn) (.nil) Y Y) (fun n1 s1 h => ?_)
   obtain ⟨i, rfl⟩ : ∃ x, x = s1 := ⟨_, rfl⟩
   replace h := t1i h
   refine t1T ?_
   unfold frame_sound_L1 at h
   refine T_seq <| Tr <| Rq Y (v_move (ov Y)) <| Rq Y (v_lss (ov Y) (ov Y)) <| R_nil <| T_keep (kc 0 Y <| kc 3 Y <| kc 29 Y <| kn) Y <| T_if h Y (fun b29 h => ?_) (fun b29 h => ?_)
   ·
    refine T_skip <| T_seq <| T_block <| T_keep (kc 0 Y <| kc 3 Y <| kn) Y <| Tr <| Rq Y (v_move (ov Y)) <| Rq Y (v_move (ov Y)) <| Rq Y (v_nilCheckR (ov Y)) ?_
    obtain ⟨x4, h_x4, h⟩ := bnd h
    refine Rq Y (v_ixRG (ov Y) (ov Y) tR49 h_x4) ?_
    refine Rq Y (v_loadS_r (ov Y) tS47 (at_get (at_at (o := 0) (o' := (i.toNat * 1)) (at_all arL) (at_v1 h_x4)))) ?_
    obtain ⟨y5, h_y5, h⟩ := bnd h
    refine Rq Y (v_call (ok_frame_odd h_y5) (.cons (ov Y) (.b Y) <| .nil)) ?_
    refine Rq Y (v_not (ov Y)) ?_
    refine R_nil <| T_keep (kc 0 Y <| kc 3 Y <| kc 38 Y <| kn) Y <| T_if h Y (fun b38 h => ?_) (fun b38 h => ?_)
    ·
     refine T_keep (kn) Y <| Tr <| Rq Y (v_assign (ov Y)) <| R_nil ?_
     rw [lx h] at ho1
     replace h := ho1
     obtain rfl := rt (v := false) h
     refine T_ret (retq ?_ (.one (.tmp Y (Dat.view (.b Y)))))
     rfl
    ·
     refine T_skip <| T_keep (kc 0 Y <| kc 3 Y <| kn) Y <| T_reg <| Rq Y (v_move (ov Y)) <| Rq Y (v_add (ov Y) (ov Y) Y) <| Rq Y (v_assign (ov Y)) <| R_nil ?_
     exact ⟨(i64 (i + 1)), h, Ent.sel [] (sd 0 Y Y <| sd 3 Y Y <| sn) (.nil) Y Y⟩
   ·
    refine T_exit ?_
    rw [lx h] at ho1
    replace h := ho1
    exact ⟨(), h, Ent.sel [] (sd 0 Y Y <| sn) (.nil) Y Y⟩
  ·
   replace h := elr h
   cases j
   replace h := t0i h
   refine t0T ?_
   refine T_seq (T_draw (cw := md0) (by kernel_rfl) ?_)
   refine Dq 0 Y Y Y (v_move (ov Y)) ?_
   refine Dq 1 Y Y Y (v_nilCheckR (ov Y)) ?_
   obtain ⟨x5, h_x5, h⟩ := bnd h
   refine Dq 2 Y Y Y (v_ixRG (ov Y) (ov Y) tR49 h_x5) ?_
   refine Dq 3 Y Y Y (v_loadS_r (ov Y) tS47 (at_get (at_at (o := 0) (o' := ((Int.toNat 62) * 1)) (at_all arL) (at_v1 h_x5)))) ?_
   obtain ⟨y6, h_y6, h⟩ := bnd h
   refine Dq 4 Y Y Y (v_call (ok_frame_data h_y6) (.cons (ov Y) (.b Y) <| .nil)) ?_
   obtain ⟨q2, h_q2, h⟩ := bnd h
   refine Dq 5 Y Y Y (v_shlG (ov Y) (ov Y) h_q2) ?_
   refine Dq 6 Y Y Y (v_move (ov Y)) ?_
   refine Dq 7 Y Y Y (v_nilCheckR (ov Y)) ?_
   obtain ⟨x6, h_x6, h⟩ := bnd h
   refine Dq 8 Y Y Y (v_ixRG (ov Y) (ov Y) tR49 h_x6) ?_
   refine Dq 9 Y Y Y (v_loadS_r (ov Y) tS47 (at_get (at_at (o := 0) (o' := ((Int.toNat 63) * 1)) (at_all arL) (at_v1 h_x6)))) ?_
   obtain ⟨y7, h_y7, h⟩ := bnd h
   refine Dq 10 Y Y Y (v_call (ok_frame_data h_y7) (.cons (ov Y) (.b Y) <| .nil)) ?_
   refine Dq 11 Y Y Y (v_or_ (ov Y) (ov Y)) ?_
   refine Dq 12 Y Y Y (v_move (ov Y)) ?_
   obtain ⟨y8, h_y8, h⟩ := bnd h
   refine Dq 13 Y Y Y (v_call (ok_frame_checkOf h_y8) (.cons (ov Y) (.b Y) <| .nil)) ?_
   refine Dq 14 Y Y Y (v_eql (ov Y) (ov Y)) ?_
   refine Dq 15 Y Y Y (v_assign (ov Y)) ?_
   refine D_done (by kernel_rfl) ?_
   obtain rfl := rt (v := (decide ((bor .i64 q2 y7) = y8))) h
   refine T_ret (retq ?_ (.one (.tmp Y (Dat.view (.b Y)))))
   rfl

theorem ok_frame_Sound {f : Vector Int 64} {r : Bool} (h : frame_Sound f = some r) :
  CSpec Tryz.prog gl0 209 [.agg (List.map C47 f.toList)] (.bool r) := by
 unfold frame_Sound at h
 replace h := bnd0 h
 refine spec_of (by kernel_rfl) Tryz.func209 Y Y ?_
 intro w0 A
 refine Tr <| Rq Y (v_boxD (cva (ov Y)) arL tZ_49 (arD fun _ => Y)) <| Rq Y (v_assign (ov Y)) <| R_nil <| T_keep (kc 1 Y <| kc 2 Y <| kn) Y <| Tr ?_
 obtain ⟨y, h_y, h⟩ := bnd h
 refine Rq Y (v_call (ok_frame_sound h_y) (.cons (ov Y) (.b Y) <| .nil)) ?_
 refine Rq Y (v_assign (ov Y)) ?_
 refine R_nil ?_
 obtain rfl := rt (v := y) h
 refine T_ret (retq ?_ (.one (.tmp Y (Dat.view (.b Y)))))
 rfl

theorem it_scan {h_ : List Int} {out r : List api_Found} {l Bx : Nat} {rec : Loop} (hY : ∀ (x : api_Found) (xs ys : List api_Found), app xs [x] = some ys → YSpec Tryz.prog gl0 l rec Bx [.int .i64 x.At, .agg (List.map C47 x.Frame.toList)] [some ⟨82, [[.own 1 xs.length]]⟩, some ⟨88, List.map R88 xs⟩] [some ⟨82, [[.own 1 ys.length]]⟩, some ⟨88, List.map R88 ys⟩]) (h : salvage_scan_it h_ out = some r) :
  ISpec Tryz.prog gl0 250 l rec Bx [.lit (.func (.yield l) #[] #[]), .rp [.sl 5 (List.map R5 h_)] 0] [some ⟨82, [[.own 1 out.length]]⟩, some ⟨88, List.map R88 out⟩] [some ⟨82, [[.own 1 r.length]]⟩, some ⟨88, List.map R88 r⟩] := by
 unfold salvage_scan_it at h
 replace h := bnd0 h
 refine i_of Tryz.func250 Y Y Y Y ?_
 intro w0 A W φ0 hrec hlW hB1 hB2 hB3
 refine Tr <| Rq Y (v_assign (ov Y)) <| R_nil <| T_block ?_
 obtain ⟨r1, hl1, ho1⟩ := bndL h
 refine T_loopG _ (t2 fun o at_ => ⟨[(0, .lit (.func (.yield l) #[] #[])), (1, .rp [.sl 5 (List.map R5 h_)] 0), (3, .int .i64 at_)], [some ⟨82, [[.own 1 o.length]]⟩, some ⟨88, List.map R88 o⟩]⟩) _ hl1 (Ent.sel [some 0, some 1] (sd 0 Y Y <| sd 1 Y Y <| sd 3 Y Y <| sn) (.cons Y (ro1 (by exact tZ_82.symm) (rlc (.own _ Y) <| rln)) <| .cons Y (roM D88) <| .nil) Y Y) (fun n1 s1 h => ?_)
 obtain ⟨o, at_⟩ := s1
 replace h := t2i h
 refine t2T ?_
 unfold salvage_scan_it_L1 at h
 refine T_seq <| Tr <| Rq Y (v_move (ov Y)) <| Rq Y (v_add (ov Y) (ov Y) Y) <| Rq Y (v_loadS_r (ov Y) tS68 Y) <| Rq Y (v_len (slv_sl (ov Y) tZ_5) tL68 (len_map _ _)) <| Rq Y (v_leq (ov Y) (ov Y)) <| R_nil <| T_keep (kc 0 Y <| kc 1 Y <| kc 3 Y <| kc 9 Y <| kn) Y <| T_if h Y (fun b9 h => ?_) (fun b9 h => ?_)
 ·
  refine T_skip <| T_joinG (fun j => (.inr j)) (t1 fun o2 => ⟨[(0, .lit (.func (.yield l) #[] #[])), (1, .rp [.sl 5 (List.map R5 h_)] 0), (3, .int .i64 at_)], [some ⟨82, [[.own 1 o2.length]]⟩, some ⟨88, List.map R88 o2⟩]⟩) h (fun h => ?_) (fun j h => ?_)
  ·
   refine T_block <| T_seq <| T_keep (kc 0 Y <| kc 1 Y <| kc 3 Y <| kn) Y <| Tr <| Rq Y (v_loadS_r (ov Y) tS68 Y) <| Rq Y (v_move (ov Y)) <| Rq Y (v_move (ov Y)) <| Rq Y (v_add (ov Y) (ov Y) Y) ?_
   obtain ⟨l, h_l, h⟩ := bnd h
   refine Rq Y (v_sliceG (ov Y) tL68 (oi (ov Y)) (oi (ov Y)) h_l) ?_
   obtain ⟨y, h_y, h⟩ := bnd h
   refine Rq Y (v_call (ok_salvage_wordAt h_y) (.cons (ov Y) (.b Y) <| .nil)) ?_
   obtain ⟨y2, h_y2, h⟩ := bnd h
   refine Rq Y (v_call (ok_salvage_isSync h_y2) (.cons (ov Y) (.b Y) <| .nil)) ?_
   refine Rq Y (v_not (ov Y)) ?_
   refine R_nil <| T_keep (kc 0 Y <| kc 1 Y <| kc 3 Y <| kc 19 Y <| kn) Y <| T_if h Y (fun b19 h => ?_) (fun b19 h => ?_)
   ·
    refine T_exit ?_
    exact ⟨o, h, Ent.sel [some 0, some 1] (sd 0 Y Y <| sd 1 Y Y <| sd 3 Y Y <| sn) (.cons Y (ro1 (by exact tZ_82.symm) (rlc (.own _ Y) <| rln)) <| .cons Y (roM D88) <| .nil) Y Y⟩
   ·
    refine T_skip <| T_keep (kc 0 Y <| kc 1 Y <| kc 3 Y <| kn) Y <| Tr <| Rq Y (v_loadS_r (ov Y) tS68 Y) <| Rq Y (v_move (ov Y)) <| Rq Y (v_move (ov Y)) <| Rq Y (v_add (ov Y) (ov Y) Y) ?_
    obtain ⟨l2, h_l2, h⟩ := bnd h
    refine Rq Y (v_sliceG (ov Y) tL68 (oi (ov Y)) (oi (ov Y)) h_l2) ?_
    obtain ⟨v, h_v, h⟩ := bnd h
    refine Rq Y (v_sapG (f := C5) (ov Y) tR284 tZ_5 Y h_v) ?_
    refine Rq Y (v_loadA_r (ov Y) tA284 (at_sub (at_all arL)) arL) ?_
    obtain ⟨y3, h_y3, h⟩ := bnd h
    refine Rq Y (v_call (ok_salvage_frameIn h_y3) (.cons (ov Y) (.aggB (arD fun _ => Y)) <| .nil)) ?_
    refine Rx Y (w_alloc (row := (List.map C47 (Vector.replicate 64 0).toList)) 2 Y tZ49 Y tZ_49) ?_
    refine Rx Y (w_store (ov Y) (ov Y) (cells_agg tA49 arL) Y Y Y (put_le (at_all arL) arL) (cell1_all (arC fun _ => Y)) (put_all (Eq.trans arL (Eq.symm arL)))) ?_
    refine R_nil <| T_keep (kc 0 Y <| kc 1 Y <| kc 3 Y <| kc 4 Y <| kn) Y <| T_seq (T_in (TI_reg ?_))
    refine RI_q _ Y Y (v_loadA (ov Y) Y Y Y tA49 (at_sub (at_all arL)) arL (hns := (nsM fun _ => Y))) ?_
    obtain ⟨y4, h_y4, h⟩ := bnd h
    refine RI_q _ Y Y (v_call (ok_frame_Sound h_y4) (.cons (ov Y) (.aggB (arD fun _ => Y)) <| .nil)) ?_
    refine RI_q _ Y Y (v_move (ov Y)) ?_
    rcases ifR h with ⟨hg, h⟩ | ⟨hg, h⟩
    ·
     refine RI_lit (d := 30) (b' := true) Y (beqT hg) ?_
     refine RI_qG _ Y Y Y Y Y (v_move (ov Y)) ?_
     refine RI_qG _ Y Y Y Y Y (v_move (ov Y)) ?_
     refine RI_qG _ Y Y Y Y Y (v_loadA (ov Y) Y Y Y tA49 (at_sub (at_all arL)) arL (hns := (nsM fun _ => Y))) ?_
     obtain ⟨out2, h_out2, h⟩ := bnd h
     refine RI_yield Y [0, 1] (.cons (ov Y) (.dat Y) <| .cons (ov Y) (rAgg (rld (arD fun _ => Y))) <| .nil) (hY (api_Found.mk at_ y3) _ _ h_out2) Y hrec hlW (by exact Nat.zero_lt_succ _) hB1 hB2 hB3 Y Y (.cons Y (ro1 (by exact tZ_82.symm) (rlc (.own _ Y) rln)) <| .cons Y (roM D88) <| .nil) Y (.lent 0 (.inl Y) Y (ro1 (by exact tZ_82.symm) (rlc (.own _ (.inl Y)) rln)) <| .lent 1 (.inl Y) Y (roM D88) <| .keep Y Y <| .nil) Y Y (fun _ _ _ hc => wanted_lit Y Y Y hc) Y ?_
     refine RI_qG _ Y Y Y Y Y (v_not (ov Y)) ?_
     refine RI_q _ Y Y (v_pickT (ov Y) (ov Y)) ?_
     refine RI_nil ?_
     refine T_keep (kc 0 Y <| kc 1 Y <| kc 3 Y <| kc 36 Y <| kn) Y <| T_if h Y (fun b36 h => ?_) (fun b36 h => ?_)
     ·
      rw [lx h] at ho1
      replace h := ho1
      obtain rfl := rt (v := out2) h
      refine T_ret ?_
      exact retg [some 0, some 1] Y .nil (.cons Y (ro1 (by exact tZ_82.symm) (rlc (.own _ Y) rln)) <| .cons Y (roM D88) <| .nil) Y Y (rTup (rld Y))
     ·
      refine T_skip ?_
      exact ⟨out2, h, Ent.sel [some 0, some 1] (sd 0 Y Y <| sd 1 Y Y <| sd 3 Y Y <| sn) (.cons Y (ro1 (by exact tZ_82.symm) (rlc (.own _ Y) <| rln)) <| .cons Y (roM D88) <| .nil) Y Y⟩
    ·
     refine RI_lit (d := 30) (b' := false) Y (beqF hg) ?_
     refine RI_skipG Y Y Y Y Y ?_
     refine RI_skipG Y Y Y Y Y ?_
     refine RI_skipG Y Y Y Y Y ?_
     refine RI_skipG Y Y Y Y Y ?_
     refine RI_skipG Y Y Y Y Y ?_
     refine RI_q _ Y Y (v_pickF (ov Y) (ov Y)) ?_
     refine RI_nil ?_
     refine T_keep (kc 0 Y <| kc 1 Y <| kc 3 Y <| kc 36 Y <| kn) Y <| T_if h Y (fun b36 h => ?_) (fun b36 h => ?_)
     ·
      exact Bool.noConfusion b36
     ·
      refine T_skip ?_
      exact ⟨o, h, Ent.sel [some 0, some 1] (sd 0 Y Y <| sd 1 Y Y <| sd 3 Y Y <| sn) (.cons Y (ro1 (by exact tZ_82.symm) (rlc (.own _ Y) <| rln)) <| .cons Y (roM D88) <| .nil) Y Y⟩
  ·
   replace h := elr h
   obtain ⟨o2, rfl⟩ : ∃ x, x = j := ⟨_, rfl⟩
   replace h := t1i h
   refine t1T ?_
   refine T_reg <| Rq Y (v_move (ov Y)) <| Rq Y (v_add (ov Y) (ov Y) Y) <| Rq Y (v_assign (ov Y)) <| R_nil ?_
   exact ⟨(o2, (i64 (at_ + 1))), h, Ent.sel [some 0, some 1] (sd 0 Y Y <| sd 1 Y Y <| sd 3 Y Y <| sn) (.cons Y (ro1 (by exact tZ_82.symm) (rlc (.own _ Y) <| rln)) <| .cons Y (roM D88) <| .nil) Y Y⟩
 ·
  refine T_exit ?_
  rw [lx h] at ho1
  replace h := ho1
  obtain rfl := rt (v := o) h
  exact retgn [some 0, some 1] Y .nil (.cons Y (ro1 (by exact tZ_82.symm) (rlc (.own _ Y) rln)) <| .cons Y (roM D88) <| .nil) Y Y (rTup (rld Y))

theorem ok_sounds (h_ : List Int) : CSpec Tryz.prog gl0 197 [.sl 5 (List.map R5 h_)] (.fn 250 [.rp [.sl 5 (List.map R5 h_)] 0]) := by
 refine spec_of (by kernel_rfl) Tryz.func197 Y Y ?_
 intro w0 A
 refine Tr <| Rq Y (v_boxD (cvs (ov Y) (cell1_b Y)) Y tZ_68 Y) <| Rq Y (v_assign (ov Y)) <| R_nil <| Tr <| Rq Y (v_makeFunc (.cons (ov Y) <| .nil)) <| Rq Y (v_assign (ov Y)) <| R_nil <| T_ret (retq Y (.one (.tmp Y (Dat.view (.fnC (.cons (.b Y) <| .nil))))))

theorem ok_salvage_scan {h_ : List Int} {r : List api_Found} (h : salvage_scan h_ = some r) :
  CSpec Tryz.prog gl0 107 [.sl 5 (List.map R5 h_)] (.sl 88 (List.map R88 r)) := by
 unfold salvage_scan at h
 refine cspec_range (by kernel_rfl) Tryz.func107 Y Y ?_
 intro w0 A
 refine PI_seqT (TI_reg ?_)
 refine RI_q _ Y Y (v_assign (ov Y)) ?_
 refine RI_nil ?_
 refine PI_seqT (TI_reg ?_)
 refine RI_w _ _ Y Y (w_alloc (row := [_]) 0 Y tZ82 Y tZ_82) ?_
 refine RI_nil ?_
 refine PI_seq (PI_seqT (TI_reg ?_))
 refine RI_q _ Y Y (v_move (ov Y)) ?_
 refine RI_q _ Y Y (v_call (ok_sounds h_) (.cons (ov Y) (.b Y) <| .nil)) ?_
 refine RI_ent (Ent.sel [some 0, none] (sd 0 Y Y <| sd 2 Y Y <| sr 3 Y (.ptr (r' := 0) _ _ _ Y) <| sd 6 Y Y <| sr 7 Y (rFn (rlc (.dat Y) <| rln)) <| sn) (.cons Y (ro1 (by exact tZ_82.symm) (rlc (.row (r' := 1) Y) rln)) <| .row 88 <| .nil) Y Y) ?_
 refine RI_nil ?_
 refine PI_range (n := 3) (os := [some ⟨82, [[.own 1 ([] : List api_Found).length]]⟩, some ⟨88, List.map R88 ([] : List api_Found)⟩]) (os' := [some ⟨82, [[.own 1 r.length]]⟩, some ⟨88, List.map R88 r⟩]) (hp' := [some ⟨82, [[.own 1 r.length]]⟩, some ⟨88, List.map R88 r⟩]) [0, 1] Y Y Y (by kernel_rfl) Y Y (fun Bx l fn φ a w hc hBx hmp => ?_) (.cons Y (ro1 (by exact tZ_82.symm) (rlc (.own _ Y) rln)) <| .cons Y (roM D88) <| .nil) Y (.lent 0 (.inl Y) Y (ro1 (by exact tZ_82.symm) (rlc (.own _ (.inl Y)) rln)) <| .lent 1 (.inl Y) Y (roM D88) <| .nil) Y Y (tp := 3) Y ?_
 ·
  refine it_scan (fun x xs l h_l => ?_) h
  refine y_of (tm := [(3, .ptr 0 1 0 0), (8, .int .i64 x.At), (9, .agg (List.map C47 x.Frame.toList))]) (st1 := ⟨(5, .ptr 2 1 0 0) :: (4, .int .i64 x.At) :: [(3, .ptr 0 1 0 0), (8, .int .i64 x.At), (9, .agg (List.map C47 x.Frame.toList))], [some ⟨82, [[.own 1 xs.length]]⟩, some ⟨88, List.map R88 xs⟩, some ⟨49, [(List.map C47 x.Frame.toList)]⟩]⟩) Y Y Y hc.size (tm_two Y (by show Nat.blt _ a.tmps.size = true; rw [hc.size]; rfl) (by show Nat.blt _ a.tmps.size = true; rw [hc.size]; rfl) Y Y Y Y Y (slot_box hc Y Y Y hBx)) (fun w0 A W φ0 => ?_) (fun w0 A W φ0 => ?_)
  ·
   refine TI_seq (TI_reg ?_)
   refine RI_q _ Y Y (v_assign (ov Y)) ?_
   refine RI_nil ?_
   refine TI_reg ?_
   refine RI_w _ _ Y Y (w_alloc (row := (List.map C47 (Vector.replicate 64 0).toList)) 2 Y tZ49 Y tZ_49) ?_
   refine RI_w _ _ Y Y (w_store (ov Y) (ov Y) (cells_agg tA49 arL) Y Y Y (put_le (at_all arL) arL) (cell1_all (arC fun _ => Y)) (put_all (Eq.trans arL (Eq.symm arL)))) ?_
   exact RI_nil ⟨Y, Y⟩
  ·
   refine TI_block (TI_reg ?_)
   refine RI_q _ Y Y (v_loadS (ov Y) Y Y Y tS82 Y) ?_
   refine RI_q _ Y Y (v_move (ov Y)) ?_
   refine RI_q _ Y Y (v_loadA (ov Y) Y Y Y tA49 (at_sub (at_all arL)) arL (hns := (nsM fun _ => Y))) ?_
   refine RI_q _ Y Y (v_buildX (zr := (.int .i64 0) :: ((List.map C47 (Vector.replicate 64 0).toList) ++ ([]))) tPL88 tHA88 tZ88 (by kernel_rfl) (.cons (cvs (ov Y) (cell1_b Y)) <| .cons (cva (ov Y)) <| .nil) (fa_cons Y Y (at0 (hdc (n := 0) hd0)) (put1) <| fa_cons Y arL (atc (o := 0) (at0 (hdw arL))) (putc (o := 0) (putw (Eq.trans arL (Eq.symm arL)))) <| fa_nil)) ?_
   refine RI_q _ Y Y (v_lit tL82 (.cons (cva (ov Y)) (lnC (n := 64) (lnA (m := 64) (n := 0) arL (lnN))) (pwD (alC Y (alA (arD fun _ => Y) (alN)))) <| .nil) Y Y) ?_
   refine RI_w _ _ Y Y (w_appendG (ov Y) (slv_sl (ov Y) tZ_88) tL82 Y Y Y (fun x => cell1_all (E88 x)) Y h_l) ?_
   refine RI_w _ _ Y Y (w_store (ov Y) (ov Y) (cells_scal tS82) Y Y Y (Nat.le_of_ble_eq_true Y) (cell1_all Y) Y) ?_
   refine RI_ent (Ent.sel [some 0, some 1] (sn) (.cons Y (ro1 (by exact tZ_82.symm) (rlc (.own (r' := 1) _ Y) rln)) <| .cons Y (roM D88) <| .nil) Y Y) ?_
   exact RI_nil ⟨Y, Y⟩
 ·
  refine DI_seq ?_
  refine RD_q _ Y Y Y (v_loadS (ov Y) Y Y Y tS82 Y) ?_
  refine RD_q _ Y Y Y (v_assign (ov Y)) ?_
  refine RD_nil ?_
  exact DI_ret (.one (.tmp Y (View.ownM Y Y D88))) Y Y

theorem ok_salvage_certain_o {h_ : List Int} {r : (List api_Found)} (h : salvage_certain h_ = some r) :
  GSpec Tryz.prog gl0 110 [.sl 5 (List.map R5 h_)] [] (.own 0 r.length) [some ⟨88, List.map R88 r⟩] := by
 unfold salvage_certain at h
 replace h := bnd0 h
 refine gspec_of (by kernel_rfl) Tryz.func110 Y Y ?_
 intro w0 A W φ0
 refine Tr <| Rq Y (v_assign (ov Y)) <| R_nil <| T_keep (kc 0 Y <| kn) Y <| Tr <| Rq Y (v_move (ov Y)) ?_
 obtain ⟨y, h_y, h⟩ := bnd h
 refine Rq Y (v_call (ok_salvage_scan h_y) (.cons (ov Y) (.b Y) <| .nil)) ?_
 refine Rq Y (v_assign (ov Y)) ?_
 refine R_nil <| T_keep (kc 3 Y <| kn) Y <| Tr <| Rq Y (v_assign (ov Y)) <| R_nil <| T_joinG id (t1 fun out => ⟨[(4, .own 0 out.length)], [some ⟨88, List.map R88 out⟩]⟩) h (fun h => ?_) (fun j h => ?_)
 ·
  refine Tr <| Rq Y (v_move (ov Y)) <| Rq Y (v_len (slv_sl (ov Y) tZ_88) tL82 (len_map _ _)) <| Rq Y (v_move (ov Y)) <| R_nil <| T_block ?_
  obtain ⟨r1, hl1, ho1⟩ := bndL h
  refine T_loopG _ (t2 fun out2 i => ⟨[(3, .sl 88 (List.map R88 y)), (4, .own 0 out2.length), (9, .sl 88 (List.map R88 y)), (10, .int .i64 (y.length : Int)), (11, .int .i64 i)], [some ⟨88, List.map R88 out2⟩]⟩) _ hl1 (Ent.sel [none] (sd 3 Y Y <| sr 4 Y (.row Y) <| sd 9 Y Y <| sd 10 Y Y <| sd 11 Y Y <| sn) (.row 88 <| .nil) Y Y) (fun n1 s1 h => ?_)
  obtain ⟨out2, i⟩ := s1
  replace h := t2i h
  refine t2T ?_
  unfold salvage_certain_L1 at h
  refine Tr <| Rq Y (v_lss (ov Y) (ov Y)) <| R_nil <| T_seq <| T_if h Y (fun b12 h => ?_) (fun b12 h => ?_)
  ·
   refine T_skip <| T_seq <| T_block <| T_keep (kc 3 Y <| kc 4 Y <| kc 9 Y <| kc 10 Y <| kc 11 Y <| kn) Y <| Tr <| Rq Y (v_move (ov Y)) ?_
   obtain ⟨x, h_x, h⟩ := bnd h
   refine Rq Y (v_ixSG (ov Y) (ov Y) tL82 h_x) ?_
   refine Rq Y (v_loadA_r (ov Y) tA88 (at_sub (at_all (lnC (n := 64) (lnA (m := 64) (n := 0) arL (lnN))))) (lnC (n := 64) (lnA (m := 64) (n := 0) arL (lnN)))) ?_
   refine Rx Y (w_alloc (row := (.int .i64 0) :: ((List.map C47 (Vector.replicate 64 0).toList) ++ ([]))) 1 Y tZ88 (by kernel_rfl) (by exact Eq.symm (Eq.trans (b := 65) (lnC (n := 64) (lnA (m := 64) (n := 0) arL (lnN))) tZ_88.symm))) ?_
   refine Rq Y (v_assign (ov Y)) ?_
   refine Rx Y (w_store (ov Y) (ov Y) (cells_agg tA88 (lnC (n := 64) (lnA (m := 64) (n := 0) arL (lnN)))) Y Y Y (put_le (at_all (lnC (n := 64) (lnA (m := 64) (n := 0) arL (lnN)))) (lnC (n := 64) (lnA (m := 64) (n := 0) arL (lnN)))) (cell1_all (alC Y (alA (arC fun _ => Y) (alN)))) (put_all (Eq.trans (lnC (n := 64) (lnA (m := 64) (n := 0) arL (lnN))) (Eq.symm (lnC (n := 64) (lnA (m := 64) (n := 0) arL (lnN))))))) ?_
   refine R_nil <| T_keep (kc 3 Y <| kc 4 Y <| kc 5 Y <| kc 6 Y <| kc 9 Y <| kc 10 Y <| kc 11 Y <| kn) Y <| T_seq (T_draw (cw := md0) (by kernel_rfl) ?_)
   refine Dq 0 Y Y Y (v_move (ov Y)) ?_
   refine Dq 1 Y Y Y (v_eql (ov Y) (ov Y)) ?_
   refine Dq 2 Y Y Y (v_move (ov Y)) ?_
   refine Dq 3 Y Y Y (.guarded ((decide (i = 0)) == false) Y Y Y Y fun h => v_fieldP (ov Y) Y Y tF88_0) ?_
   refine Dq 4 Y Y Y (.guarded ((decide (i = 0)) == false) Y Y Y Y fun h => v_loadS (ow Y h) Y Y Y tS3 (at_get (at0 (hdc (n := 0) hd0)))) ?_
   refine Dq 5 Y Y Y (.guarded ((decide (i = 0)) == false) Y Y Y Y fun h => v_move (ov Y)) ?_
   refine Dq 6 Y Y Y (.guarded ((decide (i = 0)) == false) Y Y Y Y fun h => v_move (ov Y)) ?_
   refine Dq 7 Y Y Y (.guarded ((decide (i = 0)) == false) Y Y Y Y fun h => v_sub (ow Y h) (ov Y) Y) ?_
   obtain ⟨x2, h_x2, h⟩ := bnd h
   refine Dq 8 Y Y Y (.guarded ((decide (i = 0)) == false) Y Y Y Y fun h => v_ixSG (ow Y h) (ow Y h) tL82 (gdT h_x2 h)) ?_
   refine Dq 9 Y Y Y (.guarded ((decide (i = 0)) == false) Y Y Y Y fun h => v_fieldR (ow Y h) tF88_0) ?_
   refine Dq 10 Y Y Y (.guarded ((decide (i = 0)) == false) Y Y Y Y fun h => v_loadS_r (ow Y h) tS3 (at_get (at0 (hdc (n := 0) hd0)))) ?_
   refine Dq 11 Y Y Y (.guarded ((decide (i = 0)) == false) Y Y Y Y fun h => v_sub (ow Y h) (ow Y h) Y) ?_
   refine Dq 12 Y Y Y (.guarded ((decide (i = 0)) == false) Y Y Y Y fun h => v_geq (ow Y h) (ov Y)) ?_
   refine Dq 13 Y Y Y (v_or (ov Y) (fun hp => ow Y (gF hp))) ?_
   refine Dq 14 Y Y Y (v_move (ov Y)) ?_
   refine Dq 15 Y Y Y (.guarded (((decide (i = 0)) || (decide (192 ≤ (i64 (x.At - x2.At))))) == true) Y Y Y Y fun h => v_move (ov Y)) ?_
   refine Dq 16 Y Y Y (.guarded (((decide (i = 0)) || (decide (192 ≤ (i64 (x.At - x2.At))))) == true) Y Y Y Y fun h => v_move (ov Y)) ?_
   refine Dq 17 Y Y Y (.guarded (((decide (i = 0)) || (decide (192 ≤ (i64 (x.At - x2.At))))) == true) Y Y Y Y fun h => v_len (slv_sl (ow Y h) tZ_88) tL82 (len_map _ _)) ?_
   refine Dq 18 Y Y Y (.guarded (((decide (i = 0)) || (decide (192 ≤ (i64 (x.At - x2.At))))) == true) Y Y Y Y fun h => v_sub (ow Y h) (ov Y) Y) ?_
   refine Dq 19 Y Y Y (.guarded (((decide (i = 0)) || (decide (192 ≤ (i64 (x.At - x2.At))))) == true) Y Y Y Y fun h => v_eql (ow Y h) (ow Y h)) ?_
   refine Dq 20 Y Y Y (.guarded (((decide (i = 0)) || (decide (192 ≤ (i64 (x.At - x2.At))))) == true) Y Y Y Y fun h => v_move (ow Y h)) ?_
   refine Dq 21 Y Y Y (.guarded2 ((((decide (i = 0)) || (decide (192 ≤ (i64 (x.At - x2.At))))) == true) && ((decide (i = (i64 ((y.length : Int) - 1)))) == false)) Y Y Y Y fun h => v_move (ov Y)) ?_
   refine Dq 22 Y Y Y (.guarded2 ((((decide (i = 0)) || (decide (192 ≤ (i64 (x.At - x2.At))))) == true) && ((decide (i = (i64 ((y.length : Int) - 1)))) == false)) Y Y Y Y fun h => v_move (ov Y)) ?_
   refine Dq 23 Y Y Y (.guarded2 ((((decide (i = 0)) || (decide (192 ≤ (i64 (x.At - x2.At))))) == true) && ((decide (i = (i64 ((y.length : Int) - 1)))) == false)) Y Y Y Y fun h => v_add (ow Y h) (ov Y) Y) ?_
   obtain ⟨x3, h_x3, h⟩ := bnd h
   refine Dq 24 Y Y Y (.guarded2 ((((decide (i = 0)) || (decide (192 ≤ (i64 (x.At - x2.At))))) == true) && ((decide (i = (i64 ((y.length : Int) - 1)))) == false)) Y Y Y Y fun h => v_ixSG (ow Y h) (ow Y h) tL82 (gdT h_x3 h)) ?_
   refine Dq 25 Y Y Y (.guarded2 ((((decide (i = 0)) || (decide (192 ≤ (i64 (x.At - x2.At))))) == true) && ((decide (i = (i64 ((y.length : Int) - 1)))) == false)) Y Y Y Y fun h => v_fieldR (ow Y h) tF88_0) ?_
   refine Dq 26 Y Y Y (.guarded2 ((((decide (i = 0)) || (decide (192 ≤ (i64 (x.At - x2.At))))) == true) && ((decide (i = (i64 ((y.length : Int) - 1)))) == false)) Y Y Y Y fun h => v_loadS_r (ow Y h) tS3 (at_get (at0 (hdc (n := 0) hd0)))) ?_
   refine Dq 27 Y Y Y (.guarded2 ((((decide (i = 0)) || (decide (192 ≤ (i64 (x.At - x2.At))))) == true) && ((decide (i = (i64 ((y.length : Int) - 1)))) == false)) Y Y Y Y fun h => v_fieldP (ov Y) Y Y tF88_0) ?_
   refine Dq 28 Y Y Y (.guarded2 ((((decide (i = 0)) || (decide (192 ≤ (i64 (x.At - x2.At))))) == true) && ((decide (i = (i64 ((y.length : Int) - 1)))) == false)) Y Y Y Y fun h => v_loadS (ow Y h) Y Y Y tS3 (at_get (at0 (hdc (n := 0) hd0)))) ?_
   refine Dq 29 Y Y Y (.guarded2 ((((decide (i = 0)) || (decide (192 ≤ (i64 (x.At - x2.At))))) == true) && ((decide (i = (i64 ((y.length : Int) - 1)))) == false)) Y Y Y Y fun h => v_sub (ow Y h) (ow Y h) Y) ?_
   refine Dq 30 Y Y Y (.guarded2 ((((decide (i = 0)) || (decide (192 ≤ (i64 (x.At - x2.At))))) == true) && ((decide (i = (i64 ((y.length : Int) - 1)))) == false)) Y Y Y Y fun h => v_geq (ow Y h) (ov Y)) ?_
   refine Dq 31 Y Y Y (.guarded (((decide (i = 0)) || (decide (192 ≤ (i64 (x.At - x2.At))))) == true) Y Y Y Y fun h => v_or (ow Y h) (fun hp => ow Y (gA h (gF hp)))) ?_
   refine Dq 32 Y Y Y (v_and (ov Y) (fun hp => ow Y (gT hp))) ?_
   refine D_done (by kernel_rfl) ?_
   refine T_keep (kc 3 Y <| kc 4 Y <| kc 6 Y <| kc 9 Y <| kc 10 Y <| kc 11 Y <| kc 48 Y <| kn) Y <| T_if h Y (fun b48 h => ?_) (fun b48 h => ?_)
   ·
    refine T_keep (kc 3 Y <| kc 4 Y <| kc 6 Y <| kc 9 Y <| kc 10 Y <| kc 11 Y <| kn) Y <| T_reg <| Rq Y (v_move (ov Y)) <| Rq Y (v_loadA (ov Y) Y Y Y tA88 (at_sub (at_all (lnC (n := 64) (lnA (m := 64) (n := 0) arL (lnN))))) (lnC (n := 64) (lnA (m := 64) (n := 0) arL (lnN))) (hns := nsC Y (nsA (nsM fun _ => Y) (nsR Y)))) <| R_q (.sl 88 (List.map R88 ([x] : List api_Found))) Y (v_lit tL82 (.cons (cva (ov Y)) (lnC (n := 64) (lnA (m := 64) (n := 0) arL (lnN))) (pwD (alC Y (alA (arD fun _ => Y) (alN)))) <| .nil) Y Y) ?_
    obtain ⟨l, h_l, h⟩ := bnd h
    refine Rx Y (w_appendG (ov Y) (slv_sl (ov Y) tZ_88) tL82 Y Y Y (fun x => cell1_all (E88 x)) Y h_l) ?_
    refine Rq Y (v_assign (ov Y)) ?_
    refine R_nil <| T_keep (kc 3 Y <| kc 4 Y <| kc 9 Y <| kc 10 Y <| kc 11 Y <| kn) Y <| T_reg <| Rq Y (v_add (ov Y) (ov Y) Y) <| Rq Y (v_move (ov Y)) <| R_nil ?_
    exact ⟨(l, (i64 (i + 1))), h, Ent.sel [some 0] (sd 3 Y Y <| sr 4 Y (.own _ Y) <| sd 9 Y Y <| sd 10 Y Y <| sd 11 Y Y <| sn) (.cons Y (roM D88) <| .nil) Y Y⟩
   ·
    refine T_skip <| T_keep (kc 3 Y <| kc 4 Y <| kc 9 Y <| kc 10 Y <| kc 11 Y <| kn) Y <| T_reg <| Rq Y (v_add (ov Y) (ov Y) Y) <| Rq Y (v_move (ov Y)) <| R_nil ?_
    exact ⟨(out2, (i64 (i + 1))), h, Ent.sel [some 0] (sd 3 Y Y <| sr 4 Y (.own _ Y) <| sd 9 Y Y <| sd 10 Y Y <| sd 11 Y Y <| sn) (.cons Y (roM D88) <| .nil) Y Y⟩
  ·
   refine T_exit ?_
   rw [lx h] at ho1
   replace h := ho1
   exact ⟨out2, h, Ent.sel [some 0] (sr 4 Y (.own _ Y) <| sn) (.cons Y (roM D88) <| .nil) Y Y⟩
 ·
  obtain ⟨out, rfl⟩ : ∃ x, x = j := ⟨_, rfl⟩
  replace h := t1i h
  refine t1T ?_
  refine Tr <| Rq Y (v_move (ov Y)) <| Rq Y (v_assign (ov Y)) <| R_nil ?_
  obtain rfl := rt (v := out) h
  refine T_ret ?_
  exact retg [some 0] Y (.cons (.tmp Y) <| .nil) (.cons Y (roM D88) <| .nil) Y Y (.own _ Y)

theorem ok_frame_Number {f : Vector Int 64} {r : Int × Bool} (h : frame_Number f = some r) :
  CSpec Tryz.prog gl0 208 [.agg (List.map C47 f.toList)] (.tuple [.int .i64 r.1, .bool r.2]) := by
 unfold frame_Number at h
 replace h := bnd0 h
 refine spec_of (by kernel_rfl) Tryz.func208 Y Y ?_
 intro w0 A
 refine Tr <| Rq Y (v_boxD (cva (ov Y)) arL tZ_49 (arD fun _ => Y)) <| Rq Y (v_assign (ov Y)) <| Rq Y (v_assign (ov Y)) <| R_nil <| T_seq <| T_keep (kc 1 Y <| kn) Y <| Tr ?_
 obtain ⟨x, h_x, h⟩ := bnd h
 refine Rq Y (v_ixRG (ov Y) (ov Y) tR49 h_x) ?_
 refine Rq Y (v_loadS_r (ov Y) tS47 (at_get (at_at (o := 0) (o' := ((Int.toNat 1) * 1)) (at_all arL) (at_v1 h_x)))) ?_
 obtain ⟨y, h_y, h⟩ := bnd h
 refine Rq Y (v_call (ok_frame_odd h_y) (.cons (ov Y) (.b Y) <| .nil)) ?_
 refine Rq Y (v_not (ov Y)) ?_
 refine Rq Y (v_move (ov Y)) ?_
 obtain ⟨x2, h_x2, h⟩ := bnd h
 refine Rq Y (.guarded ((!y) == false) Y Y Y Y fun h => v_ixRG (ov Y) (ov Y) tR49 (gdT h_x2 h)) ?_
 refine Rq Y (.guarded ((!y) == false) Y Y Y Y fun h => v_loadS_r (ow Y h) tS47 (at_get (at_at (o := 0) (o' := ((Int.toNat 2) * 1)) (at_all arL) (at_v1 (gdT h_x2 h))))) ?_
 obtain ⟨y2, h_y2, h⟩ := bnd h
 refine Rq Y (.guarded ((!y) == false) Y Y Y Y fun h => v_call (ok_frame_odd (gdT h_y2 h)) (.cons (ow Y h) (.b Y) <| .nil)) ?_
 refine Rq Y (.guarded ((!y) == false) Y Y Y Y fun h => v_not (ow Y h)) ?_
 refine Rq Y (v_or (ov Y) (fun hp => ow Y (gF hp))) ?_
 refine R_nil <| T_keep (kc 1 Y <| kc 13 Y <| kn) Y <| T_if h Y (fun b13 h => ?_) (fun b13 h => ?_)
 ·
  refine T_keep (kn) Y <| Tr <| Rq Y (v_assign (ov Y)) <| Rq Y (v_assign (ov Y)) <| R_nil ?_
  obtain rfl := rt (v := (0, false)) h
  refine T_ret (retq ?_ (.two (.tmp Y (Dat.view (.b Y))) (.tmp Y (Dat.view (.b Y)))))
  rfl
 ·
  refine T_skip <| T_keep (kc 1 Y <| kn) Y <| Tr ?_
  obtain ⟨y3, h_y3, h⟩ := bnd h
  refine Rq Y (v_call (ok_frame_numberOf h_y3) (.cons (ov Y) (.b Y) <| .nil)) ?_
  refine Rq Y (v_assign (ov Y)) ?_
  refine Rq Y (v_assign (ov Y)) ?_
  refine R_nil ?_
  obtain rfl := rt (v := (y3, true)) h
  refine T_ret (retq ?_ (.two (.tmp Y (Dat.view (.b Y))) (.tmp Y (Dat.view (.b Y)))))
  rfl

theorem ok_salvage_newFinder {h_ : List Int} {r : salvage_finder} (h : salvage_newFinder h_ = some r) :
  CSpec Tryz.prog gl0 178 [.sl 5 (List.map R5 h_)] (.rp [.sl 5 (List.map R5 r.h_), .sl 88 (List.map R88 r.certain), .sl 3 (List.map R3 r.numbers), .any] 0) := by
 unfold salvage_newFinder at h
 replace h := bnd0 h
 refine spec_of (by kernel_rfl) Tryz.func178 Y Y ?_
 intro w0 A
 refine Tr <| Rq Y (v_assign (ov Y)) <| R_nil <| T_keep (kc 0 Y <| kn) Y <| Tr <| Rq Y (v_move (ov Y)) <| Rq Y (v_move (ov Y)) ?_
 obtain ⟨y, h_y, h⟩ := bnd h
 refine Rx Y (w_callG [] (ok_salvage_certain_o h_y) (.cons (ov Y) (.dat Y) <| .nil) (.nil) Y (.lent 0 (.inr ⟨Nat.le_of_ble_eq_true Y, Y⟩) Y (roM D88) <| .nil) Y Y (.own _ (.inr ⟨Nat.le_of_ble_eq_true Y, Y⟩))) ?_
 refine Rx Y (w_makeMap 1 Y tMp215) ?_
 refine Rq Y (v_build (ys := [_, _, _, _]) tPL217 tHA217 tZ217 (.cons (cvs (ov Y) (cell1_b Y)) <| .cons (cvs (ov Y) (cell1_b Y)) <| .cons (cvs (ov Y) (cell1_b Y)) <| .nil) Y) ?_
 refine Rx Y (w_box 2 Y (ov Y) tA217 Y) ?_
 refine Rq Y (v_assign (ov Y)) ?_
 refine R_nil <| T_joinG id (t2 fun numbers at__ => ⟨[(3, .ptr 0 1 0 0)], [some ⟨217, [[.sl 5 (List.map R5 h_), .own 1 y.length, .own 2 numbers.length, .mref 3 1]]⟩, some ⟨88, List.map R88 y⟩, some ⟨3, List.map R3 numbers⟩, some ⟨215, [[.mcon (List.map (mrow FK3 FV3) at__)]]⟩]⟩) h (fun h => ?_) (fun j h => ?_)
 ·
  refine T_keep (kc 3 Y <| kn) Y <| Tr <| Rq Y (v_move (ov Y)) <| Rq Y (v_nilCheckP (ov Y) Y Y) <| Rq Y (v_fieldP (ov Y) Y Y tF217_1) <| Rq Y (v_loadS (ov Y) Y Y Y tS82 Y) <| Rq Y (v_lenO (ov Y) Y Y tL82) <| Rq Y (v_move (ov Y)) <| R_nil <| T_block ?_
  obtain ⟨r1, hl1, ho1⟩ := bndL h
  refine T_loopG _ (t3 fun numbers2 at__2 i => ⟨[(3, .ptr 0 1 0 0), (17, .own 1 y.length), (18, .int .i64 (y.length : Int)), (19, .int .i64 i)], [some ⟨217, [[.sl 5 (List.map R5 h_), .own 1 y.length, .own 2 numbers2.length, .mref 3 1]]⟩, some ⟨88, List.map R88 y⟩, some ⟨3, List.map R3 numbers2⟩, some ⟨215, [[.mcon (List.map (mrow FK3 FV3) at__2)]]⟩]⟩) _ hl1 (Ent.sel [some 2, some 0, none, some 1] (sr 3 Y (.ptr _ _ _ Y) <| sr 17 Y (.own _ Y) <| sd 18 Y Y <| sd 19 Y Y <| sn) (.cons Y (ro1 (by exact tZ_217.symm) (rlc (.dat Y) <| rlc (.own _ Y) <| rlc (.row Y) <| rlc (.mref _ Y) <| rln)) <| .cons Y (roM D88) <| .row 3 <| .cons Y (roMap (fk := FK3) (fv := FV3) (m := ([] : List (Int × Int))) tZ_215 (fun _ => .dat Y) (fun _ => .ren (.dat Y))) <| .nil) Y Y) (fun n1 s1 h => ?_)
  obtain ⟨numbers2, at__2, i⟩ := s1
  replace h := t3i h
  refine t3T ?_
  unfold salvage_newFinder_L1 at h
  refine Tr <| Rq Y (v_lss (ov Y) (ov Y)) <| R_nil <| T_seq <| T_if h Y (fun b20 h => ?_) (fun b20 h => ?_)
  ·
   refine T_skip <| T_joinG id (t2 fun numbers3 at__3 => ⟨[(3, .ptr 0 1 0 0), (17, .own 1 y.length), (18, .int .i64 (y.length : Int)), (19, .int .i64 i)], [some ⟨217, [[.sl 5 (List.map R5 h_), .own 1 y.length, .own 2 numbers3.length, .mref 3 1]]⟩, some ⟨88, List.map R88 y⟩, some ⟨3, List.map R3 numbers3⟩, some ⟨215, [[.mcon (List.map (mrow FK3 FV3) at__3)]]⟩]⟩) h (fun h => ?_) (fun j h => ?_)
   ·
    refine T_block <| T_keep (kc 3 Y <| kc 17 Y <| kc 18 Y <| kc 19 Y <| kn) Y <| Tr <| Rq Y (v_move (ov Y)) ?_
    obtain ⟨x, h_x, h⟩ := bnd h
    refine Rq Y (v_ixOG (ov Y) (ov Y) tL82 Y Y h_x) ?_
    refine Rq Y (v_loadAR (ov Y) Y Y h_x tA88 (at_sub (at_all (lnC (n := 64) (lnA (m := 64) (n := 0) arL (lnN))))) (lnC (n := 64) (lnA (m := 64) (n := 0) arL (lnN))) (hns := nsC Y (nsA (nsM fun _ => Y) (nsR Y)))) ?_
    refine Rx Y (w_alloc (row := (.int .i64 0) :: ((List.map C47 (Vector.replicate 64 0).toList) ++ ([]))) 4 Y tZ88 (by kernel_rfl) (by exact Eq.symm (Eq.trans (b := 65) (lnC (n := 64) (lnA (m := 64) (n := 0) arL (lnN))) tZ_88.symm))) ?_
    refine Rq Y (v_assign (ov Y)) ?_
    refine Rx Y (w_store (ov Y) (ov Y) (cells_agg tA88 (lnC (n := 64) (lnA (m := 64) (n := 0) arL (lnN)))) Y Y Y (put_le (at_all (lnC (n := 64) (lnA (m := 64) (n := 0) arL (lnN)))) (lnC (n := 64) (lnA (m := 64) (n := 0) arL (lnN)))) (cell1_all (alC Y (alA (arC fun _ => Y) (alN)))) (put_all (Eq.trans (lnC (n := 64) (lnA (m := 64) (n := 0) arL (lnN))) (Eq.symm (lnC (n := 64) (lnA (m := 64) (n := 0) arL (lnN))))))) ?_
    refine R_nil <| T_keep (kc 3 Y <| kc 4 Y <| kc 5 Y <| kc 17 Y <| kc 18 Y <| kc 19 Y <| kn) Y <| Tr <| Rq Y (v_fieldP (ov Y) Y Y tF88_1) <| Rq Y (v_loadA (ov Y) Y Y Y tA49 (at_sub (atc (o := 0) (at0 (hdw arL)))) arL (hns := (nsM fun _ => Y))) ?_
    obtain ⟨y2, h_y2, h⟩ := bnd h
    refine Rq Y (v_call (ok_frame_Number h_y2) (.cons (ov Y) (.aggB (arD fun _ => Y)) <| .nil)) ?_
    refine Rq Y (v_move (ov Y)) ?_
    refine Rq Y (v_extract (ov Y) Y) ?_
    refine Rq Y (v_extract (ov Y) Y) ?_
    refine Rq Y (v_assign (ov Y)) ?_
    refine Rq Y (v_assign (ov Y)) ?_
    refine R_nil <| T_keep (kc 3 Y <| kc 4 Y <| kc 5 Y <| kc 6 Y <| kc 17 Y <| kc 18 Y <| kc 19 Y <| kn) Y <| T_draw (cw := md0) (by kernel_rfl) <| Dq 7 Y Y Y (v_move (ov Y)) <| Dq 8 Y Y Y (v_nilCheckP (ov Y) Y Y) <| Dq 9 Y Y Y (v_fieldP (ov Y) Y Y tF217_2) <| Dq 10 Y Y Y (v_loadS (ov Y) Y Y Y tS28 Y) <| Dq 11 Y Y Y (v_move (ov Y)) <| D_q0 12 (.sl 3 (List.map R3 ([y2.1] : List Int))) Y (by kernel_rfl) Y Y (v_lit tL28 (.cons (cvs (ov Y) (cell1_b Y)) Y (.cons (.b Y) .nil) <| .nil) Y Y) <| D_free 0 _ Y (by kernel_rfl) Y Y (fun hp' => v_move (ov Y)) <| D_free 1 _ Y (by kernel_rfl) Y Y (fun hp' => v_move (ov Y)) <| D_free 14 _ Y (by kernel_rfl) Y Y (fun hp' => v_move (ov Y)) ?_
    obtain ⟨l, h_l, h⟩ := bnd h
    refine D_many [2, 5, 13] (by kernel_rfl) (.q Y Y Y (v_nilCheckP (ov Y) Y Y) ?_ <| .q Y Y Y (v_fieldP (ov Y) Y Y tF88_0) ?_ <| .w Y Y Y (fun h => by cases h) (fun h => by cases h) (w_appendG (ov Y) (slv_sl (ov Y) tZ_3) tL28 Y Y Y (fun _ => cell1_all Y) Y h_l) ?_ <| .nil) 
    ·
     refine D_many [3, 5, 13] (by kernel_rfl) (.q Y Y Y (v_fieldP (ov Y) Y Y tF217_3) ?_ <| .q Y Y Y (v_fieldP (ov Y) Y Y tF88_0) ?_ <| .w Y Y Y (fun h => by cases h) (fun h => by cases h) (w_appendG (ov Y) (slv_sl (ov Y) tZ_3) tL28 Y Y Y (fun _ => cell1_all Y) Y h_l) ?_ <| .nil) 
     ·
      refine D_many [4, 5, 13] (by kernel_rfl) (.q Y Y Y (v_loadS (ov Y) Y Y Y tS215 Y) ?_ <| .q Y Y Y (v_fieldP (ov Y) Y Y tF88_0) ?_ <| .w Y Y Y (fun h => by cases h) (fun h => by cases h) (w_appendG (ov Y) (slv_sl (ov Y) tZ_3) tL28 Y Y Y (fun _ => cell1_all Y) Y h_l) ?_ <| .nil) 
      ·
       refine Dw 5 13 Y Y Y Y Y Y (v_fieldP (ov Y) Y Y tF88_0) (w_appendG (ov Y) (slv_sl (ov Y) tZ_3) tL28 Y Y Y (fun _ => cell1_all Y) Y h_l) ?_ ?_
       ·
        refine Dw 6 13 Y Y Y Y Y Y (v_loadS (ov Y) Y Y Y tS3 (at_get (at0 (hdc (n := 0) hd0)))) (w_appendG (ov Y) (slv_sl (ov Y) tZ_3) tL28 Y Y Y (fun _ => cell1_all Y) Y h_l) ?_ ?_
        ·
         refine Do 13 Y Y Y (w_appendG (ov Y) (slv_sl (ov Y) tZ_3) tL28 Y Y Y (fun _ => cell1_all Y) Y h_l) ?_
         refine Dq 15 Y Y Y (v_nilCheckP (ov Y) Y Y) ?_
         refine Dq 16 Y Y Y (v_fieldP (ov Y) Y Y tF217_2) ?_
         refine Do 17 Y Y Y (w_store (ov Y) (ov Y) (cells_scal tS28) Y Y Y (Nat.le_of_ble_eq_true Y) (cell1_all Y) Y) ?_
         refine Do 18 Y Y Y (w_mapEntry (m := at__2) (fk := FK3) (fv := FV3) (k := x.At) (z0 := 0) (ov Y) (ov Y) tMp215 tKO3 Y (fun _ => .b Y) (zero_scal tZV3 Y)) ?_
         refine Dq 19 Y Y Y (v_extract (ov Y) Y) ?_
         refine Do 20 Y Y Y (w_entryStore (m := at__2) (fk := FK3) (fv := FV3) (k := x.At) (v := i) (ov Y) (ov Y) (ov Y) tMp215 Y) ?_
         refine D_done (by kernel_rfl) ?_
         exact ⟨(l, (mput kqI at__2 x.At i)), h, Ent.sel [some 0, some 1, some 2, some 3] (sr 3 Y (.ptr _ _ _ Y) <| sr 17 Y (.own _ Y) <| sd 18 Y Y <| sd 19 Y Y <| sn) (.cons Y (ro1 (by exact tZ_217.symm) (rlc (.dat Y) <| rlc (.own _ Y) <| rlc (.own _ Y) <| rlc (.mref _ Y) <| rln)) <| .cons Y (roM D88) <| .cons Y (roM D3) <| .cons Y (roMap (fk := FK3) (fv := FV3) (m := (mput kqI at__2 x.At i)) tZ_215 (fun _ => .dat Y) (fun _ => .ren (.dat Y))) <| .nil) Y Y⟩
        ·
         refine Dq 15 Y Y Y (v_nilCheckP (ov Y) Y Y) ?_
         refine Dq 16 Y Y Y (v_fieldP (ov Y) Y Y tF217_2) ?_
         refine Dw 6 17 Y Y Y Y Y Y (v_loadS (ov Y) Y Y Y tS3 (at_get (at0 (hdc (n := 0) hd0)))) (w_store (ov Y) (ov Y) (cells_scal tS28) Y Y Y (Nat.le_of_ble_eq_true Y) (cell1_all Y) Y) ?_ ?_
         ·
          refine Do 17 Y Y Y (w_store (ov Y) (ov Y) (cells_scal tS28) Y Y Y (Nat.le_of_ble_eq_true Y) (cell1_all Y) Y) ?_
          refine Do 18 Y Y Y (w_mapEntry (m := at__2) (fk := FK3) (fv := FV3) (k := x.At) (z0 := 0) (ov Y) (ov Y) tMp215 tKO3 Y (fun _ => .b Y) (zero_scal tZV3 Y)) ?_
          refine Dq 19 Y Y Y (v_extract (ov Y) Y) ?_
          refine Do 20 Y Y Y (w_entryStore (m := at__2) (fk := FK3) (fv := FV3) (k := x.At) (v := i) (ov Y) (ov Y) (ov Y) tMp215 Y) ?_
          refine D_done (by kernel_rfl) ?_
          exact ⟨(l, (mput kqI at__2 x.At i)), h, Ent.sel [some 0, some 1, some 2, some 3] (sr 3 Y (.ptr _ _ _ Y) <| sr 17 Y (.own _ Y) <| sd 18 Y Y <| sd 19 Y Y <| sn) (.cons Y (ro1 (by exact tZ_217.symm) (rlc (.dat Y) <| rlc (.own _ Y) <| rlc (.own _ Y) <| rlc (.mref _ Y) <| rln)) <| .cons Y (roM D88) <| .cons Y (roM D3) <| .cons Y (roMap (fk := FK3) (fv := FV3) (m := (mput kqI at__2 x.At i)) tZ_215 (fun _ => .dat Y) (fun _ => .ren (.dat Y))) <| .nil) Y Y⟩
         ·
          refine Dq 6 Y Y Y (v_loadS (ov Y) Y Y Y tS3 (at_get (at0 (hdc (n := 0) hd0)))) ?_
          refine Do 18 Y Y Y (w_mapEntry (m := at__2) (fk := FK3) (fv := FV3) (k := x.At) (z0 := 0) (ov Y) (ov Y) tMp215 tKO3 Y (fun _ => .b Y) (zero_scal tZV3 Y)) ?_
          refine Dq 19 Y Y Y (v_extract (ov Y) Y) ?_
          refine Do 20 Y Y Y (w_entryStore (m := at__2) (fk := FK3) (fv := FV3) (k := x.At) (v := i) (ov Y) (ov Y) (ov Y) tMp215 Y) ?_
          refine D_done (by kernel_rfl) ?_
          exact ⟨(l, (mput kqI at__2 x.At i)), h, Ent.sel [some 0, some 1, some 2, some 3] (sr 3 Y (.ptr _ _ _ Y) <| sr 17 Y (.own _ Y) <| sd 18 Y Y <| sd 19 Y Y <| sn) (.cons Y (ro1 (by exact tZ_217.symm) (rlc (.dat Y) <| rlc (.own _ Y) <| rlc (.own _ Y) <| rlc (.mref _ Y) <| rln)) <| .cons Y (roM D88) <| .cons Y (roM D3) <| .cons Y (roMap (fk := FK3) (fv := FV3) (m := (mput kqI at__2 x.At i)) tZ_215 (fun _ => .dat Y) (fun _ => .ren (.dat Y))) <| .nil) Y Y⟩
       ·
        refine Dq 15 Y Y Y (v_nilCheckP (ov Y) Y Y) ?_
        refine Dq 16 Y Y Y (v_fieldP (ov Y) Y Y tF217_2) ?_
        refine Dw 5 17 Y Y Y Y Y Y (v_fieldP (ov Y) Y Y tF88_0) (w_store (ov Y) (ov Y) (cells_scal tS28) Y Y Y (Nat.le_of_ble_eq_true Y) (cell1_all Y) Y) ?_ ?_
        ·
         refine Dw 6 17 Y Y Y Y Y Y (v_loadS (ov Y) Y Y Y tS3 (at_get (at0 (hdc (n := 0) hd0)))) (w_store (ov Y) (ov Y) (cells_scal tS28) Y Y Y (Nat.le_of_ble_eq_true Y) (cell1_all Y) Y) ?_ ?_
         ·
          refine Do 17 Y Y Y (w_store (ov Y) (ov Y) (cells_scal tS28) Y Y Y (Nat.le_of_ble_eq_true Y) (cell1_all Y) Y) ?_
          refine Do 18 Y Y Y (w_mapEntry (m := at__2) (fk := FK3) (fv := FV3) (k := x.At) (z0 := 0) (ov Y) (ov Y) tMp215 tKO3 Y (fun _ => .b Y) (zero_scal tZV3 Y)) ?_
          refine Dq 19 Y Y Y (v_extract (ov Y) Y) ?_
          refine Do 20 Y Y Y (w_entryStore (m := at__2) (fk := FK3) (fv := FV3) (k := x.At) (v := i) (ov Y) (ov Y) (ov Y) tMp215 Y) ?_
          refine D_done (by kernel_rfl) ?_
          exact ⟨(l, (mput kqI at__2 x.At i)), h, Ent.sel [some 0, some 1, some 2, some 3] (sr 3 Y (.ptr _ _ _ Y) <| sr 17 Y (.own _ Y) <| sd 18 Y Y <| sd 19 Y Y <| sn) (.cons Y (ro1 (by exact tZ_217.symm) (rlc (.dat Y) <| rlc (.own _ Y) <| rlc (.own _ Y) <| rlc (.mref _ Y) <| rln)) <| .cons Y (roM D88) <| .cons Y (roM D3) <| .cons Y (roMap (fk := FK3) (fv := FV3) (m := (mput kqI at__2 x.At i)) tZ_215 (fun _ => .dat Y) (fun _ => .ren (.dat Y))) <| .nil) Y Y⟩
         ·
          refine Dq 6 Y Y Y (v_loadS (ov Y) Y Y Y tS3 (at_get (at0 (hdc (n := 0) hd0)))) ?_
          refine Do 18 Y Y Y (w_mapEntry (m := at__2) (fk := FK3) (fv := FV3) (k := x.At) (z0 := 0) (ov Y) (ov Y) tMp215 tKO3 Y (fun _ => .b Y) (zero_scal tZV3 Y)) ?_
          refine Dq 19 Y Y Y (v_extract (ov Y) Y) ?_
          refine Do 20 Y Y Y (w_entryStore (m := at__2) (fk := FK3) (fv := FV3) (k := x.At) (v := i) (ov Y) (ov Y) (ov Y) tMp215 Y) ?_
          refine D_done (by kernel_rfl) ?_
          exact ⟨(l, (mput kqI at__2 x.At i)), h, Ent.sel [some 0, some 1, some 2, some 3] (sr 3 Y (.ptr _ _ _ Y) <| sr 17 Y (.own _ Y) <| sd 18 Y Y <| sd 19 Y Y <| sn) (.cons Y (ro1 (by exact tZ_217.symm) (rlc (.dat Y) <| rlc (.own _ Y) <| rlc (.own _ Y) <| rlc (.mref _ Y) <| rln)) <| .cons Y (roM D88) <| .cons Y (roM D3) <| .cons Y (roMap (fk := FK3) (fv := FV3) (m := (mput kqI at__2 x.At i)) tZ_215 (fun _ => .dat Y) (fun _ => .ren (.dat Y))) <| .nil) Y Y⟩
        ·
         refine Dq 5 Y Y Y (v_fieldP (ov Y) Y Y tF88_0) ?_
         refine Dq 6 Y Y Y (v_loadS (ov Y) Y Y Y tS3 (at_get (at0 (hdc (n := 0) hd0)))) ?_
         refine Do 18 Y Y Y (w_mapEntry (m := at__2) (fk := FK3) (fv := FV3) (k := x.At) (z0 := 0) (ov Y) (ov Y) tMp215 tKO3 Y (fun _ => .b Y) (zero_scal tZV3 Y)) ?_
         refine Dq 19 Y Y Y (v_extract (ov Y) Y) ?_
         refine Do 20 Y Y Y (w_entryStore (m := at__2) (fk := FK3) (fv := FV3) (k := x.At) (v := i) (ov Y) (ov Y) (ov Y) tMp215 Y) ?_
         refine D_done (by kernel_rfl) ?_
         exact ⟨(l, (mput kqI at__2 x.At i)), h, Ent.sel [some 0, some 1, some 2, some 3] (sr 3 Y (.ptr _ _ _ Y) <| sr 17 Y (.own _ Y) <| sd 18 Y Y <| sd 19 Y Y <| sn) (.cons Y (ro1 (by exact tZ_217.symm) (rlc (.dat Y) <| rlc (.own _ Y) <| rlc (.own _ Y) <| rlc (.mref _ Y) <| rln)) <| .cons Y (roM D88) <| .cons Y (roM D3) <| .cons Y (roMap (fk := FK3) (fv := FV3) (m := (mput kqI at__2 x.At i)) tZ_215 (fun _ => .dat Y) (fun _ => .ren (.dat Y))) <| .nil) Y Y⟩
      ·
       refine D_many [4, 6, 13] (by kernel_rfl) (.q Y Y Y (v_loadS (ov Y) Y Y Y tS215 Y) ?_ <| .q Y Y Y (v_loadS (ov Y) Y Y Y tS3 (at_get (at0 (hdc (n := 0) hd0)))) ?_ <| .w Y Y Y (fun h => by cases h) (fun h => by cases h) (w_appendG (ov Y) (slv_sl (ov Y) tZ_3) tL28 Y Y Y (fun _ => cell1_all Y) Y h_l) ?_ <| .nil) 
       ·
        refine Dw 6 13 Y Y Y Y Y Y (v_loadS (ov Y) Y Y Y tS3 (at_get (at0 (hdc (n := 0) hd0)))) (w_appendG (ov Y) (slv_sl (ov Y) tZ_3) tL28 Y Y Y (fun _ => cell1_all Y) Y h_l) ?_ ?_
        ·
         refine Do 13 Y Y Y (w_appendG (ov Y) (slv_sl (ov Y) tZ_3) tL28 Y Y Y (fun _ => cell1_all Y) Y h_l) ?_
         refine Dq 15 Y Y Y (v_nilCheckP (ov Y) Y Y) ?_
         refine Dq 16 Y Y Y (v_fieldP (ov Y) Y Y tF217_2) ?_
         refine Do 17 Y Y Y (w_store (ov Y) (ov Y) (cells_scal tS28) Y Y Y (Nat.le_of_ble_eq_true Y) (cell1_all Y) Y) ?_
         refine Do 18 Y Y Y (w_mapEntry (m := at__2) (fk := FK3) (fv := FV3) (k := x.At) (z0 := 0) (ov Y) (ov Y) tMp215 tKO3 Y (fun _ => .b Y) (zero_scal tZV3 Y)) ?_
         refine Dq 19 Y Y Y (v_extract (ov Y) Y) ?_
         refine Do 20 Y Y Y (w_entryStore (m := at__2) (fk := FK3) (fv := FV3) (k := x.At) (v := i) (ov Y) (ov Y) (ov Y) tMp215 Y) ?_
         refine D_done (by kernel_rfl) ?_
         exact ⟨(l, (mput kqI at__2 x.At i)), h, Ent.sel [some 0, some 1, some 2, some 3] (sr 3 Y (.ptr _ _ _ Y) <| sr 17 Y (.own _ Y) <| sd 18 Y Y <| sd 19 Y Y <| sn) (.cons Y (ro1 (by exact tZ_217.symm) (rlc (.dat Y) <| rlc (.own _ Y) <| rlc (.own _ Y) <| rlc (.mref _ Y) <| rln)) <| .cons Y (roM D88) <| .cons Y (roM D3) <| .cons Y (roMap (fk := FK3) (fv := FV3) (m := (mput kqI at__2 x.At i)) tZ_215 (fun _ => .dat Y) (fun _ => .ren (.dat Y))) <| .nil) Y Y⟩
        ·
         refine Dq 15 Y Y Y (v_nilCheckP (ov Y) Y Y) ?_
         refine Dq 16 Y Y Y (v_fieldP (ov Y) Y Y tF217_2) ?_
         refine Dw 6 17 Y Y Y Y Y Y (v_loadS (ov Y) Y Y Y tS3 (at_get (at0 (hdc (n := 0) hd0)))) (w_store (ov Y) (ov Y) (cells_scal tS28) Y Y Y (Nat.le_of_ble_eq_true Y) (cell1_all Y) Y) ?_ ?_
         ·
          refine Do 17 Y Y Y (w_store (ov Y) (ov Y) (cells_scal tS28) Y Y Y (Nat.le_of_ble_eq_true Y) (cell1_all Y) Y) ?_
          refine Do 18 Y Y Y (w_mapEntry (m := at__2) (fk := FK3) (fv := FV3) (k := x.At) (z0 := 0) (ov Y) (ov Y) tMp215 tKO3 Y (fun _ => .b Y) (zero_scal tZV3 Y)) ?_
          refine Dq 19 Y Y Y (v_extract (ov Y) Y) ?_
          refine Do 20 Y Y Y (w_entryStore (m := at__2) (fk := FK3) (fv := FV3) (k := x.At) (v := i) (ov Y) (ov Y) (ov Y) tMp215 Y) ?_
          refine D_done (by kernel_rfl) ?_
          exact ⟨(l, (mput kqI at__2 x.At i)), h, Ent.sel [some 0, some 1, some 2, some 3] (sr 3 Y (.ptr _ _ _ Y) <| sr 17 Y (.own _ Y) <| sd 18 Y Y <| sd 19 Y Y <| sn) (.cons Y (ro1 (by exact tZ_217.symm) (rlc (.dat Y) <| rlc (.own _ Y) <| rlc (.own _ Y) <| rlc (.mref _ Y) <| rln)) <| .cons Y (roM D88) <| .cons Y (roM D3) <| .cons Y (roMap (fk := FK3) (fv := FV3) (m := (mput kqI at__2 x.At i)) tZ_215 (fun _ => .dat Y) (fun _ => .ren (.dat Y))) <| .nil) Y Y⟩
         ·
          refine Dq 6 Y Y Y (v_loadS (ov Y) Y Y Y tS3 (at_get (at0 (hdc (n := 0) hd0)))) ?_
          refine Do 18 Y Y Y (w_mapEntry (m := at__2) (fk := FK3) (fv := FV3) (k := x.At) (z0 := 0) (ov Y) (ov Y) tMp215 tKO3 Y (fun _ => .b Y) (zero_scal tZV3 Y)) ?_
          refine Dq 19 Y Y Y (v_extract (ov Y) Y) ?_
          refine Do 20 Y Y Y (w_entryStore (m := at__2) (fk := FK3) (fv := FV3) (k := x.At) (v := i) (ov Y) (ov Y) (ov Y) tMp215 Y) ?_
          refine D_done (by kernel_rfl) ?_
          exact ⟨(l, (mput kqI at__2 x.At i)), h, Ent.sel [some 0, some 1, some 2, some 3] (sr 3 Y (.ptr _ _ _ Y) <| sr 17 Y (.own _ Y) <| sd 18 Y Y <| sd 19 Y Y <| sn) (.cons Y (ro1 (by exact tZ_217.symm) (rlc (.dat Y) <| rlc (.own _ Y) <| rlc (.own _ Y) <| rlc (.mref _ Y) <| rln)) <| .cons Y (roM D88) <| .cons Y (roM D3) <| .cons Y (roMap (fk := FK3) (fv := FV3) (m := (mput kqI at__2 x.At i)) tZ_215 (fun _ => .dat Y) (fun _ => .ren (.dat Y))) <| .nil) Y Y⟩
       ·
        refine Dw 4 13 Y Y Y Y Y Y (v_loadS (ov Y) Y Y Y tS215 Y) (w_appendG (ov Y) (slv_sl (ov Y) tZ_3) tL28 Y Y Y (fun _ => cell1_all Y) Y h_l) ?_ ?_
        ·
         refine Do 13 Y Y Y (w_appendG (ov Y) (slv_sl (ov Y) tZ_3) tL28 Y Y Y (fun _ => cell1_all Y) Y h_l) ?_
         refine Dq 15 Y Y Y (v_nilCheckP (ov Y) Y Y) ?_
         refine Dq 16 Y Y Y (v_fieldP (ov Y) Y Y tF217_2) ?_
         refine Do 17 Y Y Y (w_store (ov Y) (ov Y) (cells_scal tS28) Y Y Y (Nat.le_of_ble_eq_true Y) (cell1_all Y) Y) ?_
         refine Do 18 Y Y Y (w_mapEntry (m := at__2) (fk := FK3) (fv := FV3) (k := x.At) (z0 := 0) (ov Y) (ov Y) tMp215 tKO3 Y (fun _ => .b Y) (zero_scal tZV3 Y)) ?_
         refine Dq 19 Y Y Y (v_extract (ov Y) Y) ?_
         refine Do 20 Y Y Y (w_entryStore (m := at__2) (fk := FK3) (fv := FV3) (k := x.At) (v := i) (ov Y) (ov Y) (ov Y) tMp215 Y) ?_
         refine D_done (by kernel_rfl) ?_
         exact ⟨(l, (mput kqI at__2 x.At i)), h, Ent.sel [some 0, some 1, some 2, some 3] (sr 3 Y (.ptr _ _ _ Y) <| sr 17 Y (.own _ Y) <| sd 18 Y Y <| sd 19 Y Y <| sn) (.cons Y (ro1 (by exact tZ_217.symm) (rlc (.dat Y) <| rlc (.own _ Y) <| rlc (.own _ Y) <| rlc (.mref _ Y) <| rln)) <| .cons Y (roM D88) <| .cons Y (roM D3) <| .cons Y (roMap (fk := FK3) (fv := FV3) (m := (mput kqI at__2 x.At i)) tZ_215 (fun _ => .dat Y) (fun _ => .ren (.dat Y))) <| .nil) Y Y⟩
        ·
         refine Dq 4 Y Y Y (v_loadS (ov Y) Y Y Y tS215 Y) ?_
         refine Dq 15 Y Y Y (v_nilCheckP (ov Y) Y Y) ?_
         refine Dq 16 Y Y Y (v_fieldP (ov Y) Y Y tF217_2) ?_
         refine Do 17 Y Y Y (w_store (ov Y) (ov Y) (cells_scal tS28) Y Y Y (Nat.le_of_ble_eq_true Y) (cell1_all Y) Y) ?_
         refine Do 18 Y Y Y (w_mapEntry (m := at__2) (fk := FK3) (fv := FV3) (k := x.At) (z0 := 0) (ov Y) (ov Y) tMp215 tKO3 Y (fun _ => .b Y) (zero_scal tZV3 Y)) ?_
         refine Dq 19 Y Y Y (v_extract (ov Y) Y) ?_
         refine Do 20 Y Y Y (w_entryStore (m := at__2) (fk := FK3) (fv := FV3) (k := x.At) (v := i) (ov Y) (ov Y) (ov Y) tMp215 Y) ?_
         refine D_done (by kernel_rfl) ?_
         exact ⟨(l, (mput kqI at__2 x.At i)), h, Ent.sel [some 0, some 1, some 2, some 3] (sr 3 Y (.ptr _ _ _ Y) <| sr 17 Y (.own _ Y) <| sd 18 Y Y <| sd 19 Y Y <| sn) (.cons Y (ro1 (by exact tZ_217.symm) (rlc (.dat Y) <| rlc (.own _ Y) <| rlc (.own _ Y) <| rlc (.mref _ Y) <| rln)) <| .cons Y (roM D88) <| .cons Y (roM D3) <| .cons Y (roMap (fk := FK3) (fv := FV3) (m := (mput kqI at__2 x.At i)) tZ_215 (fun _ => .dat Y) (fun _ => .ren (.dat Y))) <| .nil) Y Y⟩
       ·
        refine Dq 4 Y Y Y (v_loadS (ov Y) Y Y Y tS215 Y) ?_
        refine Dq 15 Y Y Y (v_nilCheckP (ov Y) Y Y) ?_
        refine Dq 16 Y Y Y (v_fieldP (ov Y) Y Y tF217_2) ?_
        refine Dw 6 17 Y Y Y Y Y Y (v_loadS (ov Y) Y Y Y tS3 (at_get (at0 (hdc (n := 0) hd0)))) (w_store (ov Y) (ov Y) (cells_scal tS28) Y Y Y (Nat.le_of_ble_eq_true Y) (cell1_all Y) Y) ?_ ?_
        ·
         refine Do 17 Y Y Y (w_store (ov Y) (ov Y) (cells_scal tS28) Y Y Y (Nat.le_of_ble_eq_true Y) (cell1_all Y) Y) ?_
         refine Do 18 Y Y Y (w_mapEntry (m := at__2) (fk := FK3) (fv := FV3) (k := x.At) (z0 := 0) (ov Y) (ov Y) tMp215 tKO3 Y (fun _ => .b Y) (zero_scal tZV3 Y)) ?_
         refine Dq 19 Y Y Y (v_extract (ov Y) Y) ?_
         refine Do 20 Y Y Y (w_entryStore (m := at__2) (fk := FK3) (fv := FV3) (k := x.At) (v := i) (ov Y) (ov Y) (ov Y) tMp215 Y) ?_
         refine D_done (by kernel_rfl) ?_
         exact ⟨(l, (mput kqI at__2 x.At i)), h, Ent.sel [some 0, some 1, some 2, some 3] (sr 3 Y (.ptr _ _ _ Y) <| sr 17 Y (.own _ Y) <| sd 18 Y Y <| sd 19 Y Y <| sn) (.cons Y (ro1 (by exact tZ_217.symm) (rlc (.dat Y) <| rlc (.own _ Y) <| rlc (.own _ Y) <| rlc (.mref _ Y) <| rln)) <| .cons Y (roM D88) <| .cons Y (roM D3) <| .cons Y (roMap (fk := FK3) (fv := FV3) (m := (mput kqI at__2 x.At i)) tZ_215 (fun _ => .dat Y) (fun _ => .ren (.dat Y))) <| .nil) Y Y⟩
        ·
         refine Dq 6 Y Y Y (v_loadS (ov Y) Y Y Y tS3 (at_get (at0 (hdc (n := 0) hd0)))) ?_
         refine Do 18 Y Y Y (w_mapEntry (m := at__2) (fk := FK3) (fv := FV3) (k := x.At) (z0 := 0) (ov Y) (ov Y) tMp215 tKO3 Y (fun _ => .b Y) (zero_scal tZV3 Y)) ?_
         refine Dq 19 Y Y Y (v_extract (ov Y) Y) ?_
         refine Do 20 Y Y Y (w_entryStore (m := at__2) (fk := FK3) (fv := FV3) (k := x.At) (v := i) (ov Y) (ov Y) (ov Y) tMp215 Y) ?_
         refine D_done (by kernel_rfl) ?_
         exact ⟨(l, (mput kqI at__2 x.At i)), h, Ent.sel [some 0, some 1, some 2, some 3] (sr 3 Y (.ptr _ _ _ Y) <| sr 17 Y (.own _ Y) <| sd 18 Y Y <| sd 19 Y Y <| sn) (.cons Y (ro1 (by exact tZ_217.symm) (rlc (.dat Y) <| rlc (.own _ Y) <| rlc (.own _ Y) <| rlc (.mref _ Y) <| rln)) <| .cons Y (roM D88) <| .cons Y (roM D3) <| .cons Y (roMap (fk := FK3) (fv := FV3) (m := (mput kqI at__2 x.At i)) tZ_215 (fun _ => .dat Y) (fun _ => .ren (.dat Y))) <| .nil) Y Y⟩
      ·
       refine Dq 4 Y Y Y (v_loadS (ov Y) Y Y Y tS215 Y) ?_
       refine Dq 15 Y Y Y (v_nilCheckP (ov Y) Y Y) ?_
       refine Dq 16 Y Y Y (v_fieldP (ov Y) Y Y tF217_2) ?_
       refine Dw 5 17 Y Y Y Y Y Y (v_fieldP (ov Y) Y Y tF88_0) (w_store (ov Y) (ov Y) (cells_scal tS28) Y Y Y (Nat.le_of_ble_eq_true Y) (cell1_all Y) Y) ?_ ?_
       ·
        refine Dw 6 17 Y Y Y Y Y Y (v_loadS (ov Y) Y Y Y tS3 (at_get (at0 (hdc (n := 0) hd0)))) (w_store (ov Y) (ov Y) (cells_scal tS28) Y Y Y (Nat.le_of_ble_eq_true Y) (cell1_all Y) Y) ?_ ?_
        ·
         refine Do 17 Y Y Y (w_store (ov Y) (ov Y) (cells_scal tS28) Y Y Y (Nat.le_of_ble_eq_true Y) (cell1_all Y) Y) ?_
         refine Do 18 Y Y Y (w_mapEntry (m := at__2) (fk := FK3) (fv := FV3) (k := x.At) (z0 := 0) (ov Y) (ov Y) tMp215 tKO3 Y (fun _ => .b Y) (zero_scal tZV3 Y)) ?_
         refine Dq 19 Y Y Y (v_extract (ov Y) Y) ?_
         refine Do 20 Y Y Y (w_entryStore (m := at__2) (fk := FK3) (fv := FV3) (k := x.At) (v := i) (ov Y) (ov Y) (ov Y) tMp215 Y) ?_
         refine D_done (by kernel_rfl) ?_
         exact ⟨(l, (mput kqI at__2 x.At i)), h, Ent.sel [some 0, some 1, some 2, some 3] (sr 3 Y (.ptr _ _ _ Y) <| sr 17 Y (.own _ Y) <| sd 18 Y Y <| sd 19 Y Y <| sn) (.cons Y (ro1 (by exact tZ_217.symm) (rlc (.dat Y) <| rlc (.own _ Y) <| rlc (.own _ Y) <| rlc (.mref _ Y) <| rln)) <| .cons Y (roM D88) <| .cons Y (roM D3) <| .cons Y (roMap (fk := FK3) (fv := FV3) (m := (mput kqI at__2 x.At i)) tZ_215 (fun _ => .dat Y) (fun _ => .ren (.dat Y))) <| .nil) Y Y⟩
        ·
         refine Dq 6 Y Y Y (v_loadS (ov Y) Y Y Y tS3 (at_get (at0 (hdc (n := 0) hd0)))) ?_
         refine Do 18 Y Y Y (w_mapEntry (m := at__2) (fk := FK3) (fv := FV3) (k := x.At) (z0 := 0) (ov Y) (ov Y) tMp215 tKO3 Y (fun _ => .b Y) (zero_scal tZV3 Y)) ?_
         refine Dq 19 Y Y Y (v_extract (ov Y) Y) ?_
         refine Do 20 Y Y Y (w_entryStore (m := at__2) (fk := FK3) (fv := FV3) (k := x.At) (v := i) (ov Y) (ov Y) (ov Y) tMp215 Y) ?_
         refine D_done (by kernel_rfl) ?_
         exact ⟨(l, (mput kqI at__2 x.At i)), h, Ent.sel [some 0, some 1, some 2, some 3] (sr 3 Y (.ptr _ _ _ Y) <| sr 17 Y (.own _ Y) <| sd 18 Y Y <| sd 19 Y Y <| sn) (.cons Y (ro1 (by exact tZ_217.symm) (rlc (.dat Y) <| rlc (.own _ Y) <| rlc (.own _ Y) <| rlc (.mref _ Y) <| rln)) <| .cons Y (roM D88) <| .cons Y (roM D3) <| .cons Y (roMap (fk := FK3) (fv := FV3) (m := (mput kqI at__2 x.At i)) tZ_215 (fun _ => .dat Y) (fun _ => .ren (.dat Y))) <| .nil) Y Y⟩
       ·
        refine Dq 5 Y Y Y (v_fieldP (ov Y) Y Y tF88_0) ?_
        refine Dq 6 Y Y Y (v_loadS (ov Y) Y Y Y tS3 (at_get (at0 (hdc (n := 0) hd0)))) ?_
        refine Do 18 Y Y Y (w_mapEntry (m := at__2) (fk := FK3) (fv := FV3) (k := x.At) (z0 := 0) (ov Y) (ov Y) tMp215 tKO3 Y (fun _ => .b Y) (zero_scal tZV3 Y)) ?_
        refine Dq 19 Y Y Y (v_extract (ov Y) Y) ?_
        refine Do 20 Y Y Y (w_entryStore (m := at__2) (fk := FK3) (fv := FV3) (k := x.At) (v := i) (ov Y) (ov Y) (ov Y) tMp215 Y) ?_
        refine D_done (by kernel_rfl) ?_
        exact ⟨(l, (mput kqI at__2 x.At i)), h, Ent.sel [some 0, some 1, some 2, some 3] (sr 3 Y (.ptr _ _ _ Y) <| sr 17 Y (.own _ Y) <| sd 18 Y Y <| sd 19 Y Y <| sn) (.cons Y (ro1 (by exact tZ_217.symm) (rlc (.dat Y) <| rlc (.own _ Y) <| rlc (.own _ Y) <| rlc (.mref _ Y) <| rln)) <| .cons Y (roM D88) <| .cons Y (roM D3) <| .cons Y (roMap (fk := FK3) (fv := FV3) (m := (mput kqI at__2 x.At i)) tZ_215 (fun _ => .dat Y) (fun _ => .ren (.dat Y))) <| .nil) Y Y⟩
     ·
      refine D_many [3, 6, 13] (by kernel_rfl) (.q Y Y Y (v_fieldP (ov Y) Y Y tF217_3) ?_ <| .q Y Y Y (v_loadS (ov Y) Y Y Y tS3 (at_get (at0 (hdc (n := 0) hd0)))) ?_ <| .w Y Y Y (fun h => by cases h) (fun h => by cases h) (w_appendG (ov Y) (slv_sl (ov Y) tZ_3) tL28 Y Y Y (fun _ => cell1_all Y) Y h_l) ?_ <| .nil) 
      ·
       refine D_many [4, 6, 13] (by kernel_rfl) (.q Y Y Y (v_loadS (ov Y) Y Y Y tS215 Y) ?_ <| .q Y Y Y (v_loadS (ov Y) Y Y Y tS3 (at_get (at0 (hdc (n := 0) hd0)))) ?_ <| .w Y Y Y (fun h => by cases h) (fun h => by cases h) (w_appendG (ov Y) (slv_sl (ov Y) tZ_3) tL28 Y Y Y (fun _ => cell1_all Y) Y h_l) ?_ <| .nil) 
       ·
        refine Dw 6 13 Y Y Y Y Y Y (v_loadS (ov Y) Y Y Y tS3 (at_get (at0 (hdc (n := 0) hd0)))) (w_appendG (ov Y) (slv_sl (ov Y) tZ_3) tL28 Y Y Y (fun _ => cell1_all Y) Y h_l) ?_ ?_
        ·
         refine Do 13 Y Y Y (w_appendG (ov Y) (slv_sl (ov Y) tZ_3) tL28 Y Y Y (fun _ => cell1_all Y) Y h_l) ?_
         refine Dq 15 Y Y Y (v_nilCheckP (ov Y) Y Y) ?_
         refine Dq 16 Y Y Y (v_fieldP (ov Y) Y Y tF217_2) ?_
         refine Do 17 Y Y Y (w_store (ov Y) (ov Y) (cells_scal tS28) Y Y Y (Nat.le_of_ble_eq_true Y) (cell1_all Y) Y) ?_
         refine Do 18 Y Y Y (w_mapEntry (m := at__2) (fk := FK3) (fv := FV3) (k := x.At) (z0 := 0) (ov Y) (ov Y) tMp215 tKO3 Y (fun _ => .b Y) (zero_scal tZV3 Y)) ?_
         refine Dq 19 Y Y Y (v_extract (ov Y) Y) ?_
         refine Do 20 Y Y Y (w_entryStore (m := at__2) (fk := FK3) (fv := FV3) (k := x.At) (v := i) (ov Y) (ov Y) (ov Y) tMp215 Y) ?_
         refine D_done (by kernel_rfl) ?_
         exact ⟨(l, (mput kqI at__2 x.At i)), h, Ent.sel [some 0, some 1, some 2, some 3] (sr 3 Y (.ptr _ _ _ Y) <| sr 17 Y (.own _ Y) <| sd 18 Y Y <| sd 19 Y Y <| sn) (.cons Y (ro1 (by exact tZ_217.symm) (rlc (.dat Y) <| rlc (.own _ Y) <| rlc (.own _ Y) <| rlc (.mref _ Y) <| rln)) <| .cons Y (roM D88) <| .cons Y (roM D3) <| .cons Y (roMap (fk := FK3) (fv := FV3) (m := (mput kqI at__2 x.At i)) tZ_215 (fun _ => .dat Y) (fun _ => .ren (.dat Y))) <| .nil) Y Y⟩
        ·
         refine Dq 15 Y Y Y (v_nilCheckP (ov Y) Y Y) ?_
         refine Dq 16 Y Y Y (v_fieldP (ov Y) Y Y tF217_2) ?_
         refine Dw 6 17 Y Y Y Y Y Y (v_loadS (ov Y) Y Y Y tS3 (at_get (at0 (hdc (n := 0) hd0)))) (w_store (ov Y) (ov Y) (cells_scal tS28) Y Y Y (Nat.le_of_ble_eq_true Y) (cell1_all Y) Y) ?_ ?_
         ·
          refine Do 17 Y Y Y (w_store (ov Y) (ov Y) (cells_scal tS28) Y Y Y (Nat.le_of_ble_eq_true Y) (cell1_all Y) Y) ?_
          refine Do 18 Y Y Y (w_mapEntry (m := at__2) (fk := FK3) (fv := FV3) (k := x.At) (z0 := 0) (ov Y) (ov Y) tMp215 tKO3 Y (fun _ => .b Y) (zero_scal tZV3 Y)) ?_
          refine Dq 19 Y Y Y (v_extract (ov Y) Y) ?_
          refine Do 20 Y Y Y (w_entryStore (m := at__2) (fk := FK3) (fv := FV3) (k := x.At) (v := i) (ov Y) (ov Y) (ov Y) tMp215 Y) ?_
          refine D_done (by kernel_rfl) ?_
          exact ⟨(l, (mput kqI at__2 x.At i)), h, Ent.sel [some 0, some 1, some 2, some 3] (sr 3 Y (.ptr _ _ _ Y) <| sr 17 Y (.own _ Y) <| sd 18 Y Y <| sd 19 Y Y <| sn) (.cons Y (ro1 (by exact tZ_217.symm) (rlc (.dat Y) <| rlc (.own _ Y) <| rlc (.own _ Y) <| rlc (.mref _ Y) <| rln)) <| .cons Y (roM D88) <| .cons Y (roM D3) <| .cons Y (roMap (fk := FK3) (fv := FV3) (m := (mput kqI at__2 x.At i)) tZ_215 (fun _ => .dat Y) (fun _ => .ren (.dat Y))) <| .nil) Y Y⟩
         ·
          refine Dq 6 Y Y Y (v_loadS (ov Y) Y Y Y tS3 (at_get (at0 (hdc (n := 0) hd0)))) ?_
          refine Do 18 Y Y Y (w_mapEntry (m := at__2) (fk := FK3) (fv := FV3) (k := x.At) (z0 := 0) (ov Y) (ov Y) tMp215 tKO3 Y (fun _ => .b Y) (zero_scal tZV3 Y)) ?_
          refine Dq 19 Y Y Y (v_extract (ov Y) Y) ?_
          refine Do 20 Y Y Y (w_entryStore (m := at__2) (fk := FK3) (fv := FV3) (k := x.At) (v := i) (ov Y) (ov Y) (ov Y) tMp215 Y) ?_
          refine D_done (by kernel_rfl) ?_
          exact ⟨(l, (mput kqI at__2 x.At i)), h, Ent.sel [some 0, some 1, some 2, some 3] (sr 3 Y (.ptr _ _ _ Y) <| sr 17 Y (.own _ Y) <| sd 18 Y Y <| sd 19 Y Y <| sn) (.cons Y (ro1 (by exact tZ_217.symm) (rlc (.dat Y) <| rlc (.own _ Y) <| rlc (.own _ Y) <| rlc (.mref _ Y) <| rln)) <| .cons Y (roM D88) <| .cons Y (roM D3) <| .cons Y (roMap (fk := FK3) (fv := FV3) (m := (mput kqI at__2 x.At i)) tZ_215 (fun _ => .dat Y) (fun _ => .ren (.dat Y))) <| .nil) Y Y⟩
       ·
        refine Dw 4 13 Y Y Y Y Y Y (v_loadS (ov Y) Y Y Y tS215 Y) (w_appendG (ov Y) (slv_sl (ov Y) tZ_3) tL28 Y Y Y (fun _ => cell1_all Y) Y h_l) ?_ ?_
        ·
         refine Do 13 Y Y Y (w_appendG (ov Y) (slv_sl (ov Y) tZ_3) tL28 Y Y Y (fun _ => cell1_all Y) Y h_l) ?_
         refine Dq 15 Y Y Y (v_nilCheckP (ov Y) Y Y) ?_
         refine Dq 16 Y Y Y (v_fieldP (ov Y) Y Y tF217_2) ?_
         refine Do 17 Y Y Y (w_store (ov Y) (ov Y) (cells_scal tS28) Y Y Y (Nat.le_of_ble_eq_true Y) (cell1_all Y) Y) ?_
         refine Do 18 Y Y Y (w_mapEntry (m := at__2) (fk := FK3) (fv := FV3) (k := x.At) (z0 := 0) (ov Y) (ov Y) tMp215 tKO3 Y (fun _ => .b Y) (zero_scal tZV3 Y)) ?_
         refine Dq 19 Y Y Y (v_extract (ov Y) Y) ?_
         refine Do 20 Y Y Y (w_entryStore (m := at__2) (fk := FK3) (fv := FV3) (k := x.At) (v := i) (ov Y) (ov Y) (ov Y) tMp215 Y) ?_
         refine D_done (by kernel_rfl) ?_
         exact ⟨(l, (mput kqI at__2 x.At i)), h, Ent.sel [some 0, some 1, some 2, some 3] (sr 3 Y (.ptr _ _ _ Y) <| sr 17 Y (.own _ Y) <| sd 18 Y Y <| sd 19 Y Y <| sn) (.cons Y (ro1 (by exact tZ_217.symm) (rlc (.dat Y) <| rlc (.own _ Y) <| rlc (.own _ Y) <| rlc (.mref _ Y) <| rln)) <| .cons Y (roM D88) <| .cons Y (roM D3) <| .cons Y (roMap (fk := FK3) (fv := FV3) (m := (mput kqI at__2 x.At i)) tZ_215 (fun _ => .dat Y) (fun _ => .ren (.dat Y))) <| .nil) Y Y⟩
        ·
         refine Dq 4 Y Y Y (v_loadS (ov Y) Y Y Y tS215 Y) ?_
         refine Dq 15 Y Y Y (v_nilCheckP (ov Y) Y Y) ?_
         refine Dq 16 Y Y Y (v_fieldP (ov Y) Y Y tF217_2) ?_
         refine Do 17 Y Y Y (w_store (ov Y) (ov Y) (cells_scal tS28) Y Y Y (Nat.le_of_ble_eq_true Y) (cell1_all Y) Y) ?_
         refine Do 18 Y Y Y (w_mapEntry (m := at__2) (fk := FK3) (fv := FV3) (k := x.At) (z0 := 0) (ov Y) (ov Y) tMp215 tKO3 Y (fun _ => .b Y) (zero_scal tZV3 Y)) ?_
         refine Dq 19 Y Y Y (v_extract (ov Y) Y) ?_
         refine Do 20 Y Y Y (w_entryStore (m := at__2) (fk := FK3) (fv := FV3) (k := x.At) (v := i) (ov Y) (ov Y) (ov Y) tMp215 Y) ?_
         refine D_done (by kernel_rfl) ?_
         exact ⟨(l, (mput kqI at__2 x.At i)), h, Ent.sel [some 0, some 1, some 2, some 3] (sr 3 Y (.ptr _ _ _ Y) <| sr 17 Y (.own _ Y) <| sd 18 Y Y <| sd 19 Y Y <| sn) (.cons Y (ro1 (by exact tZ_217.symm) (rlc (.dat Y) <| rlc (.own _ Y) <| rlc (.own _ Y) <| rlc (.mref _ Y) <| rln)) <| .cons Y (roM D88) <| .cons Y (roM D3) <| .cons Y (roMap (fk := FK3) (fv := FV3) (m := (mput kqI at__2 x.At i)) tZ_215 (fun _ => .dat Y) (fun _ => .ren (.dat Y))) <| .nil) Y Y⟩
       ·
        refine Dq 4 Y Y Y (v_loadS (ov Y) Y Y Y tS215 Y) ?_
        refine Dq 15 Y Y Y (v_nilCheckP (ov Y) Y Y) ?_
        refine Dq 16 Y Y Y (v_fieldP (ov Y) Y Y tF217_2) ?_
        refine Dw 6 17 Y Y Y Y Y Y (v_loadS (ov Y) Y Y Y tS3 (at_get (at0 (hdc (n := 0) hd0)))) (w_store (ov Y) (ov Y) (cells_scal tS28) Y Y Y (Nat.le_of_ble_eq_true Y) (cell1_all Y) Y) ?_ ?_
        ·
         refine Do 17 Y Y Y (w_store (ov Y) (ov Y) (cells_scal tS28) Y Y Y (Nat.le_of_ble_eq_true Y) (cell1_all Y) Y) ?_
         refine Do 18 Y Y Y (w_mapEntry (m := at__2) (fk := FK3) (fv := FV3) (k := x.At) (z0 := 0) (ov Y) (ov Y) tMp215 tKO3 Y (fun _ => .b Y) (zero_scal tZV3 Y)) ?_
         refine Dq 19 Y Y Y (v_extract (ov Y) Y) ?_
         refine Do 20 Y Y Y (w_entryStore (m := at__2) (fk := FK3) (fv := FV3) (k := x.At) (v := i) (ov Y) (ov Y) (ov Y) tMp215 Y) ?_
         refine D_done (by kernel_rfl) ?_
         exact ⟨(l, (mput kqI at__2 x.At i)), h, Ent.sel [some 0, some 1, some 2, some 3] (sr 3 Y (.ptr _ _ _ Y) <| sr 17 Y (.own _ Y) <| sd 18 Y Y <| sd 19 Y Y <| sn) (.cons Y (ro1 (by exact tZ_217.symm) (rlc (.dat Y) <| rlc (.own _ Y) <| rlc (.own _ Y) <| rlc (.mref _ Y) <| rln)) <| .cons Y (roM D88) <| .cons Y (roM D3) <| .cons Y (roMap (fk := FK3) (fv := FV3) (m := (mput kqI at__2 x.At i)) tZ_215 (fun _ => .dat Y) (fun _ => .ren (.dat Y))) <| .nil) Y Y⟩
        ·
         refine Dq 6 Y Y Y (v_loadS (ov Y) Y Y Y tS3 (at_get (at0 (hdc (n := 0) hd0)))) ?_
         refine Do 18 Y Y Y (w_mapEntry (m := at__2) (fk := FK3) (fv := FV3) (k := x.At) (z0 := 0) (ov Y) (ov Y) tMp215 tKO3 Y (fun _ => .b Y) (zero_scal tZV3 Y)) ?_
         refine Dq 19 Y Y Y (v_extract (ov Y) Y) ?_
         refine Do 20 Y Y Y (w_entryStore (m := at__2) (fk := FK3) (fv := FV3) (k := x.At) (v := i) (ov Y) (ov Y) (ov Y) tMp215 Y) ?_
         refine D_done (by kernel_rfl) ?_
         exact ⟨(l, (mput kqI at__2 x.At i)), h, Ent.sel [some 0, some 1, some 2, some 3] (sr 3 Y (.ptr _ _ _ Y) <| sr 17 Y (.own _ Y) <| sd 18 Y Y <| sd 19 Y Y <| sn) (.cons Y (ro1 (by exact tZ_217.symm) (rlc (.dat Y) <| rlc (.own _ Y) <| rlc (.own _ Y) <| rlc (.mref _ Y) <| rln)) <| .cons Y (roM D88) <| .cons Y (roM D3) <| .cons Y (roMap (fk := FK3) (fv := FV3) (m := (mput kqI at__2 x.At i)) tZ_215 (fun _ => .dat Y) (fun _ => .ren (.dat Y))) <| .nil) Y Y⟩
      ·
       refine Dw 3 13 Y Y Y Y Y Y (v_fieldP (ov Y) Y Y tF217_3) (w_appendG (ov Y) (slv_sl (ov Y) tZ_3) tL28 Y Y Y (fun _ => cell1_all Y) Y h_l) ?_ ?_
       ·
        refine Dw 4 13 Y Y Y Y Y Y (v_loadS (ov Y) Y Y Y tS215 Y) (w_appendG (ov Y) (slv_sl (ov Y) tZ_3) tL28 Y Y Y (fun _ => cell1_all Y) Y h_l) ?_ ?_
        ·
         refine Do 13 Y Y Y (w_appendG (ov Y) (slv_sl (ov Y) tZ_3) tL28 Y Y Y (fun _ => cell1_all Y) Y h_l) ?_
         refine Dq 15 Y Y Y (v_nilCheckP (ov Y) Y Y) ?_
         refine Dq 16 Y Y Y (v_fieldP (ov Y) Y Y tF217_2) ?_
         refine Do 17 Y Y Y (w_store (ov Y) (ov Y) (cells_scal tS28) Y Y Y (Nat.le_of_ble_eq_true Y) (cell1_all Y) Y) ?_
         refine Do 18 Y Y Y (w_mapEntry (m := at__2) (fk := FK3) (fv := FV3) (k := x.At) (z0 := 0) (ov Y) (ov Y) tMp215 tKO3 Y (fun _ => .b Y) (zero_scal tZV3 Y)) ?_
         refine Dq 19 Y Y Y (v_extract (ov Y) Y) ?_
         refine Do 20 Y Y Y (w_entryStore (m := at__2) (fk := FK3) (fv := FV3) (k := x.At) (v := i) (ov Y) (ov Y) (ov Y) tMp215 Y) ?_
         refine D_done (by kernel_rfl) ?_
         exact ⟨(l, (mput kqI at__2 x.At i)), h, Ent.sel [some 0, some 1, some 2, some 3] (sr 3 Y (.ptr _ _ _ Y) <| sr 17 Y (.own _ Y) <| sd 18 Y Y <| sd 19 Y Y <| sn) (.cons Y (ro1 (by exact tZ_217.symm) (rlc (.dat Y) <| rlc (.own _ Y) <| rlc (.own _ Y) <| rlc (.mref _ Y) <| rln)) <| .cons Y (roM D88) <| .cons Y (roM D3) <| .cons Y (roMap (fk := FK3) (fv := FV3) (m := (mput kqI at__2 x.At i)) tZ_215 (fun _ => .dat Y) (fun _ => .ren (.dat Y))) <| .nil) Y Y⟩
        ·
         refine Dq 4 Y Y Y (v_loadS (ov Y) Y Y Y tS215 Y) ?_
         refine Dq 15 Y Y Y (v_nilCheckP (ov Y) Y Y) ?_
         refine Dq 16 Y Y Y (v_fieldP (ov Y) Y Y tF217_2) ?_
         refine Do 17 Y Y Y (w_store (ov Y) (ov Y) (cells_scal tS28) Y Y Y (Nat.le_of_ble_eq_true Y) (cell1_all Y) Y) ?_
         refine Do 18 Y Y Y (w_mapEntry (m := at__2) (fk := FK3) (fv := FV3) (k := x.At) (z0 := 0) (ov Y) (ov Y) tMp215 tKO3 Y (fun _ => .b Y) (zero_scal tZV3 Y)) ?_
         refine Dq 19 Y Y Y (v_extract (ov Y) Y) ?_
         refine Do 20 Y Y Y (w_entryStore (m := at__2) (fk := FK3) (fv := FV3) (k := x.At) (v := i) (ov Y) (ov Y) (ov Y) tMp215 Y) ?_
         refine D_done (by kernel_rfl) ?_
         exact ⟨(l, (mput kqI at__2 x.At i)), h, Ent.sel [some 0, some 1, some 2, some 3] (sr 3 Y (.ptr _ _ _ Y) <| sr 17 Y (.own _ Y) <| sd 18 Y Y <| sd 19 Y Y <| sn) (.cons Y (ro1 (by exact tZ_217.symm) (rlc (.dat Y) <| rlc (.own _ Y) <| rlc (.own _ Y) <| rlc (.mref _ Y) <| rln)) <| .cons Y (roM D88) <| .cons Y (roM D3) <| .cons Y (roMap (fk := FK3) (fv := FV3) (m := (mput kqI at__2 x.At i)) tZ_215 (fun _ => .dat Y) (fun _ => .ren (.dat Y))) <| .nil) Y Y⟩
       ·
        refine Dq 3 Y Y Y (v_fieldP (ov Y) Y Y tF217_3) ?_
        refine Dq 4 Y Y Y (v_loadS (ov Y) Y Y Y tS215 Y) ?_
        refine Dq 15 Y Y Y (v_nilCheckP (ov Y) Y Y) ?_
        refine Dq 16 Y Y Y (v_fieldP (ov Y) Y Y tF217_2) ?_
        refine Do 17 Y Y Y (w_store (ov Y) (ov Y) (cells_scal tS28) Y Y Y (Nat.le_of_ble_eq_true Y) (cell1_all Y) Y) ?_
        refine Do 18 Y Y Y (w_mapEntry (m := at__2) (fk := FK3) (fv := FV3) (k := x.At) (z0 := 0) (ov Y) (ov Y) tMp215 tKO3 Y (fun _ => .b Y) (zero_scal tZV3 Y)) ?_
        refine Dq 19 Y Y Y (v_extract (ov Y) Y) ?_
        refine Do 20 Y Y Y (w_entryStore (m := at__2) (fk := FK3) (fv := FV3) (k := x.At) (v := i) (ov Y) (ov Y) (ov Y) tMp215 Y) ?_
        refine D_done (by kernel_rfl) ?_
        exact ⟨(l, (mput kqI at__2 x.At i)), h, Ent.sel [some 0, some 1, some 2, some 3] (sr 3 Y (.ptr _ _ _ Y) <| sr 17 Y (.own _ Y) <| sd 18 Y Y <| sd 19 Y Y <| sn) (.cons Y (ro1 (by exact tZ_217.symm) (rlc (.dat Y) <| rlc (.own _ Y) <| rlc (.own _ Y) <| rlc (.mref _ Y) <| rln)) <| .cons Y (roM D88) <| .cons Y (roM D3) <| .cons Y (roMap (fk := FK3) (fv := FV3) (m := (mput kqI at__2 x.At i)) tZ_215 (fun _ => .dat Y) (fun _ => .ren (.dat Y))) <| .nil) Y Y⟩
      ·
       refine Dq 3 Y Y Y (v_fieldP (ov Y) Y Y tF217_3) ?_
       refine Dq 4 Y Y Y (v_loadS (ov Y) Y Y Y tS215 Y) ?_
       refine Dq 15 Y Y Y (v_nilCheckP (ov Y) Y Y) ?_
       refine Dq 16 Y Y Y (v_fieldP (ov Y) Y Y tF217_2) ?_
       refine Dw 6 17 Y Y Y Y Y Y (v_loadS (ov Y) Y Y Y tS3 (at_get (at0 (hdc (n := 0) hd0)))) (w_store (ov Y) (ov Y) (cells_scal tS28) Y Y Y (Nat.le_of_ble_eq_true Y) (cell1_all Y) Y) ?_ ?_
       ·
        refine Do 17 Y Y Y (w_store (ov Y) (ov Y) (cells_scal tS28) Y Y Y (Nat.le_of_ble_eq_true Y) (cell1_all Y) Y) ?_
        refine Do 18 Y Y Y (w_mapEntry (m := at__2) (fk := FK3) (fv := FV3) (k := x.At) (z0 := 0) (ov Y) (ov Y) tMp215 tKO3 Y (fun _ => .b Y) (zero_scal tZV3 Y)) ?_
        refine Dq 19 Y Y Y (v_extract (ov Y) Y) ?_
        refine Do 20 Y Y Y (w_entryStore (m := at__2) (fk := FK3) (fv := FV3) (k := x.At) (v := i) (ov Y) (ov Y) (ov Y) tMp215 Y) ?_
        refine D_done (by kernel_rfl) ?_
        exact ⟨(l, (mput kqI at__2 x.At i)), h, Ent.sel [some 0, some 1, some 2, some 3] (sr 3 Y (.ptr _ _ _ Y) <| sr 17 Y (.own _ Y) <| sd 18 Y Y <| sd 19 Y Y <| sn) (.cons Y (ro1 (by exact tZ_217.symm) (rlc (.dat Y) <| rlc (.own _ Y) <| rlc (.own _ Y) <| rlc (.mref _ Y) <| rln)) <| .cons Y (roM D88) <| .cons Y (roM D3) <| .cons Y (roMap (fk := FK3) (fv := FV3) (m := (mput kqI at__2 x.At i)) tZ_215 (fun _ => .dat Y) (fun _ => .ren (.dat Y))) <| .nil) Y Y⟩
       ·
        refine Dq 6 Y Y Y (v_loadS (ov Y) Y Y Y tS3 (at_get (at0 (hdc (n := 0) hd0)))) ?_
        refine Do 18 Y Y Y (w_mapEntry (m := at__2) (fk := FK3) (fv := FV3) (k := x.At) (z0 := 0) (ov Y) (ov Y) tMp215 tKO3 Y (fun _ => .b Y) (zero_scal tZV3 Y)) ?_
        refine Dq 19 Y Y Y (v_extract (ov Y) Y) ?_
        refine Do 20 Y Y Y (w_entryStore (m := at__2) (fk := FK3) (fv := FV3) (k := x.At) (v := i) (ov Y) (ov Y) (ov Y) tMp215 Y) ?_
        refine D_done (by kernel_rfl) ?_
        exact ⟨(l, (mput kqI at__2 x.At i)), h, Ent.sel [some 0, some 1, some 2, some 3] (sr 3 Y (.ptr _ _ _ Y) <| sr 17 Y (.own _ Y) <| sd 18 Y Y <| sd 19 Y Y <| sn) (.cons Y (ro1 (by exact tZ_217.symm) (rlc (.dat Y) <| rlc (.own _ Y) <| rlc (.own _ Y) <| rlc (.mref _ Y) <| rln)) <| .cons Y (roM D88) <| .cons Y (roM D3) <| .cons Y (roMap (fk := FK3) (fv := FV3) (m := (mput kqI at__2 x.At i)) tZ_215 (fun _ => .dat Y) (fun _ => .ren (.dat Y))) <| .nil) Y Y⟩
     ·
      refine Dq 3 Y Y Y (v_fieldP (ov Y) Y Y tF217_3) ?_
      refine Dq 4 Y Y Y (v_loadS (ov Y) Y Y Y tS215 Y) ?_
      refine Dq 15 Y Y Y (v_nilCheckP (ov Y) Y Y) ?_
      refine Dq 16 Y Y Y (v_fieldP (ov Y) Y Y tF217_2) ?_
      refine Dw 5 17 Y Y Y Y Y Y (v_fieldP (ov Y) Y Y tF88_0) (w_store (ov Y) (ov Y) (cells_scal tS28) Y Y Y (Nat.le_of_ble_eq_true Y) (cell1_all Y) Y) ?_ ?_
      ·
       refine Dw 6 17 Y Y Y Y Y Y (v_loadS (ov Y) Y Y Y tS3 (at_get (at0 (hdc (n := 0) hd0)))) (w_store (ov Y) (ov Y) (cells_scal tS28) Y Y Y (Nat.le_of_ble_eq_true Y) (cell1_all Y) Y) ?_ ?_
       ·
        refine Do 17 Y Y Y (w_store (ov Y) (ov Y) (cells_scal tS28) Y Y Y (Nat.le_of_ble_eq_true Y) (cell1_all Y) Y) ?_
        refine Do 18 Y Y Y (w_mapEntry (m := at__2) (fk := FK3) (fv := FV3) (k := x.At) (z0 := 0) (ov Y) (ov Y) tMp215 tKO3 Y (fun _ => .b Y) (zero_scal tZV3 Y)) ?_
        refine Dq 19 Y Y Y (v_extract (ov Y) Y) ?_
        refine Do 20 Y Y Y (w_entryStore (m := at__2) (fk := FK3) (fv := FV3) (k := x.At) (v := i) (ov Y) (ov Y) (ov Y) tMp215 Y) ?_
        refine D_done (by kernel_rfl) ?_
        exact ⟨(l, (mput kqI at__2 x.At i)), h, Ent.sel [some 0, some 1, some 2, some 3] (sr 3 Y (.ptr _ _ _ Y) <| sr 17 Y (.own _ Y) <| sd 18 Y Y <| sd 19 Y Y <| sn) (.cons Y (ro1 (by exact tZ_217.symm) (rlc (.dat Y) <| rlc (.own _ Y) <| rlc (.own _ Y) <| rlc (.mref _ Y) <| rln)) <| .cons Y (roM D88) <| .cons Y (roM D3) <| .cons Y (roMap (fk := FK3) (fv := FV3) (m := (mput kqI at__2 x.At i)) tZ_215 (fun _ => .dat Y) (fun _ => .ren (.dat Y))) <| .nil) Y Y⟩
       ·
        refine Dq 6 Y Y Y (v_loadS (ov Y) Y Y Y tS3 (at_get (at0 (hdc (n := 0) hd0)))) ?_
        refine Do 18 Y Y Y (w_mapEntry (m := at__2) (fk := FK3) (fv := FV3) (k := x.At) (z0 := 0) (ov Y) (ov Y) tMp215 tKO3 Y (fun _ => .b Y) (zero_scal tZV3 Y)) ?_
        refine Dq 19 Y Y Y (v_extract (ov Y) Y) ?_
        refine Do 20 Y Y Y (w_entryStore (m := at__2) (fk := FK3) (fv := FV3) (k := x.At) (v := i) (ov Y) (ov Y) (ov Y) tMp215 Y) ?_
        refine D_done (by kernel_rfl) ?_
        exact ⟨(l, (mput kqI at__2 x.At i)), h, Ent.sel [some 0, some 1, some 2, some 3] (sr 3 Y (.ptr _ _ _ Y) <| sr 17 Y (.own _ Y) <| sd 18 Y Y <| sd 19 Y Y <| sn) (.cons Y (ro1 (by exact tZ_217.symm) (rlc (.dat Y) <| rlc (.own _ Y) <| rlc (.own _ Y) <| rlc (.mref _ Y) <| rln)) <| .cons Y (roM D88) <| .cons Y (roM D3) <| .cons Y (roMap (fk := FK3) (fv := FV3) (m := (mput kqI at__2 x.At i)) tZ_215 (fun _ => .dat Y) (fun _ => .ren (.dat Y))) <| .nil) Y Y⟩
      ·
       refine Dq 5 Y Y Y (v_fieldP (ov Y) Y Y tF88_0) ?_
       refine Dq 6 Y Y Y (v_loadS (ov Y) Y Y Y tS3 (at_get (at0 (hdc (n := 0) hd0)))) ?_
       refine Do 18 Y Y Y (w_mapEntry (m := at__2) (fk := FK3) (fv := FV3) (k := x.At) (z0 := 0) (ov Y) (ov Y) tMp215 tKO3 Y (fun _ => .b Y) (zero_scal tZV3 Y)) ?_
       refine Dq 19 Y Y Y (v_extract (ov Y) Y) ?_
       refine Do 20 Y Y Y (w_entryStore (m := at__2) (fk := FK3) (fv := FV3) (k := x.At) (v := i) (ov Y) (ov Y) (ov Y) tMp215 Y) ?_
       refine D_done (by kernel_rfl) ?_
       exact ⟨(l, (mput kqI at__2 x.At i)), h, Ent.sel [some 0, some 1, some 2, some 3] (sr 3 Y (.ptr _ _ _ Y) <| sr 17 Y (.own _ Y) <| sd 18 Y Y <| sd 19 Y Y <| sn) (.cons Y (ro1 (by exact tZ_217.symm) (rlc (.dat Y) <| rlc (.own _ Y) <| rlc (.own _ Y) <| rlc (.mref _ Y) <| rln)) <| .cons Y (roM D88) <| .cons Y (roM D3) <| .cons Y (roMap (fk := FK3) (fv := FV3) (m := (mput kqI at__2 x.At i)) tZ_215 (fun _ => .dat Y) (fun _ => .ren (.dat Y))) <| .nil) Y Y⟩
    ·
     refine D_many [2, 6, 13] (by kernel_rfl) (.q Y Y Y (v_nilCheckP (ov Y) Y Y) ?_ <| .q Y Y Y (v_loadS (ov Y) Y Y Y tS3 (at_get (at0 (hdc (n := 0) hd0)))) ?_ <| .w Y Y Y (fun h => by cases h) (fun h => by cases h) (w_appendG (ov Y) (slv_sl (ov Y) tZ_3) tL28 Y Y Y (fun _ => cell1_all Y) Y h_l) ?_ <| .nil) 
     ·
      refine D_many [3, 6, 13] (by kernel_rfl) (.q Y Y Y (v_fieldP (ov Y) Y Y tF217_3) ?_ <| .q Y Y Y (v_loadS (ov Y) Y Y Y tS3 (at_get (at0 (hdc (n := 0) hd0)))) ?_ <| .w Y Y Y (fun h => by cases h) (fun h => by cases h) (w_appendG (ov Y) (slv_sl (ov Y) tZ_3) tL28 Y Y Y (fun _ => cell1_all Y) Y h_l) ?_ <| .nil) 
      ·
       refine D_many [4, 6, 13] (by kernel_rfl) (.q Y Y Y (v_loadS (ov Y) Y Y Y tS215 Y) ?_ <| .q Y Y Y (v_loadS (ov Y) Y Y Y tS3 (at_get (at0 (hdc (n := 0) hd0)))) ?_ <| .w Y Y Y (fun h => by cases h) (fun h => by cases h) (w_appendG (ov Y) (slv_sl (ov Y) tZ_3) tL28 Y Y Y (fun _ => cell1_all Y) Y h_l) ?_ <| .nil) 
       ·
        refine Dw 6 13 Y Y Y Y Y Y (v_loadS (ov Y) Y Y Y tS3 (at_get (at0 (hdc (n := 0) hd0)))) (w_appendG (ov Y) (slv_sl (ov Y) tZ_3) tL28 Y Y Y (fun _ => cell1_all Y) Y h_l) ?_ ?_
        ·
         refine Do 13 Y Y Y (w_appendG (ov Y) (slv_sl (ov Y) tZ_3) tL28 Y Y Y (fun _ => cell1_all Y) Y h_l) ?_
         refine Dq 15 Y Y Y (v_nilCheckP (ov Y) Y Y) ?_
         refine Dq 16 Y Y Y (v_fieldP (ov Y) Y Y tF217_2) ?_
         refine Do 17 Y Y Y (w_store (ov Y) (ov Y) (cells_scal tS28) Y Y Y (Nat.le_of_ble_eq_true Y) (cell1_all Y) Y) ?_
         refine Do 18 Y Y Y (w_mapEntry (m := at__2) (fk := FK3) (fv := FV3) (k := x.At) (z0 := 0) (ov Y) (ov Y) tMp215 tKO3 Y (fun _ => .b Y) (zero_scal tZV3 Y)) ?_
         refine Dq 19 Y Y Y (v_extract (ov Y) Y) ?_
         refine Do 20 Y Y Y (w_entryStore (m := at__2) (fk := FK3) (fv := FV3) (k := x.At) (v := i) (ov Y) (ov Y) (ov Y) tMp215 Y) ?_
         refine D_done (by kernel_rfl) ?_
         exact ⟨(l, (mput kqI at__2 x.At i)), h, Ent.sel [some 0, some 1, some 2, some 3] (sr 3 Y (.ptr _ _ _ Y) <| sr 17 Y (.own _ Y) <| sd 18 Y Y <| sd 19 Y Y <| sn) (.cons Y (ro1 (by exact tZ_217.symm) (rlc (.dat Y) <| rlc (.own _ Y) <| rlc (.own _ Y) <| rlc (.mref _ Y) <| rln)) <| .cons Y (roM D88) <| .cons Y (roM D3) <| .cons Y (roMap (fk := FK3) (fv := FV3) (m := (mput kqI at__2 x.At i)) tZ_215 (fun _ => .dat Y) (fun _ => .ren (.dat Y))) <| .nil) Y Y⟩
        ·
         refine Dq 15 Y Y Y (v_nilCheckP (ov Y) Y Y) ?_
         refine Dq 16 Y Y Y (v_fieldP (ov Y) Y Y tF217_2) ?_
         refine Dw 6 17 Y Y Y Y Y Y (v_loadS (ov Y) Y Y Y tS3 (at_get (at0 (hdc (n := 0) hd0)))) (w_store (ov Y) (ov Y) (cells_scal tS28) Y Y Y (Nat.le_of_ble_eq_true Y) (cell1_all Y) Y) ?_ ?_
         ·
          refine Do 17 Y Y Y (w_store (ov Y) (ov Y) (cells_scal tS28) Y Y Y (Nat.le_of_ble_eq_true Y) (cell1_all Y) Y) ?_
          refine Do 18 Y Y Y (w_mapEntry (m := at__2) (fk := FK3) (fv := FV3) (k := x.At) (z0 := 0) (ov Y) (ov Y) tMp215 tKO3 Y (fun _ => .b Y) (zero_scal tZV3 Y)) ?_
          refine Dq 19 Y Y Y (v_extract (ov Y) Y) ?_
          refine Do 20 Y Y Y (w_entryStore (m := at__2) (fk := FK3) (fv := FV3) (k := x.At) (v := i) (ov Y) (ov Y) (ov Y) tMp215 Y) ?_
          refine D_done (by kernel_rfl) ?_
          exact ⟨(l, (mput kqI at__2 x.At i)), h, Ent.sel [some 0, some 1, some 2, some 3] (sr 3 Y (.ptr _ _ _ Y) <| sr 17 Y (.own _ Y) <| sd 18 Y Y <| sd 19 Y Y <| sn) (.cons Y (ro1 (by exact tZ_217.symm) (rlc (.dat Y) <| rlc (.own _ Y) <| rlc (.own _ Y) <| rlc (.mref _ Y) <| rln)) <| .cons Y (roM D88) <| .cons Y (roM D3) <| .cons Y (roMap (fk := FK3) (fv := FV3) (m := (mput kqI at__2 x.At i)) tZ_215 (fun _ => .dat Y) (fun _ => .ren (.dat Y))) <| .nil) Y Y⟩
         ·
          refine Dq 6 Y Y Y (v_loadS (ov Y) Y Y Y tS3 (at_get (at0 (hdc (n := 0) hd0)))) ?_
          refine Do 18 Y Y Y (w_mapEntry (m := at__2) (fk := FK3) (fv := FV3) (k := x.At) (z0 := 0) (ov Y) (ov Y) tMp215 tKO3 Y (fun _ => .b Y) (zero_scal tZV3 Y)) ?_
          refine Dq 19 Y Y Y (v_extract (ov Y) Y) ?_
          refine Do 20 Y Y Y (w_entryStore (m := at__2) (fk := FK3) (fv := FV3) (k := x.At) (v := i) (ov Y) (ov Y) (ov Y) tMp215 Y) ?_
          refine D_done (by kernel_rfl) ?_
          exact ⟨(l, (mput kqI at__2 x.At i)), h, Ent.sel [some 0, some 1, some 2, some 3] (sr 3 Y (.ptr _ _ _ Y) <| sr 17 Y (.own _ Y) <| sd 18 Y Y <| sd 19 Y Y <| sn) (.cons Y (ro1 (by exact tZ_217.symm) (rlc (.dat Y) <| rlc (.own _ Y) <| rlc (.own _ Y) <| rlc (.mref _ Y) <| rln)) <| .cons Y (roM D88) <| .cons Y (roM D3) <| .cons Y (roMap (fk := FK3) (fv := FV3) (m := (mput kqI at__2 x.At i)) tZ_215 (fun _ => .dat Y) (fun _ => .ren (.dat Y))) <| .nil) Y Y⟩
       ·
        refine Dw 4 13 Y Y Y Y Y Y (v_loadS (ov Y) Y Y Y tS215 Y) (w_appendG (ov Y) (slv_sl (ov Y) tZ_3) tL28 Y Y Y (fun _ => cell1_all Y) Y h_l) ?_ ?_
        ·
         refine Do 13 Y Y Y (w_appendG (ov Y) (slv_sl (ov Y) tZ_3) tL28 Y Y Y (fun _ => cell1_all Y) Y h_l) ?_
         refine Dq 15 Y Y Y (v_nilCheckP (ov Y) Y Y) ?_
         refine Dq 16 Y Y Y (v_fieldP (ov Y) Y Y tF217_2) ?_
         refine Do 17 Y Y Y (w_store (ov Y) (ov Y) (cells_scal tS28) Y Y Y (Nat.le_of_ble_eq_true Y) (cell1_all Y) Y) ?_
         refine Do 18 Y Y Y (w_mapEntry (m := at__2) (fk := FK3) (fv := FV3) (k := x.At) (z0 := 0) (ov Y) (ov Y) tMp215 tKO3 Y (fun _ => .b Y) (zero_scal tZV3 Y)) ?_
         refine Dq 19 Y Y Y (v_extract (ov Y) Y) ?_
         refine Do 20 Y Y Y (w_entryStore (m := at__2) (fk := FK3) (fv := FV3) (k := x.At) (v := i) (ov Y) (ov Y) (ov Y) tMp215 Y) ?_
         refine D_done (by kernel_rfl) ?_
         exact ⟨(l, (mput kqI at__2 x.At i)), h, Ent.sel [some 0, some 1, some 2, some 3] (sr 3 Y (.ptr _ _ _ Y) <| sr 17 Y (.own _ Y) <| sd 18 Y Y <| sd 19 Y Y <| sn) (.cons Y (ro1 (by exact tZ_217.symm) (rlc (.dat Y) <| rlc (.own _ Y) <| rlc (.own _ Y) <| rlc (.mref _ Y) <| rln)) <| .cons Y (roM D88) <| .cons Y (roM D3) <| .cons Y (roMap (fk := FK3) (fv := FV3) (m := (mput kqI at__2 x.At i)) tZ_215 (fun _ => .dat Y) (fun _ => .ren (.dat Y))) <| .nil) Y Y⟩
        ·
         refine Dq 4 Y Y Y (v_loadS (ov Y) Y Y Y tS215 Y) ?_
         refine Dq 15 Y Y Y (v_nilCheckP (ov Y) Y Y) ?_
         refine Dq 16 Y Y Y (v_fieldP (ov Y) Y Y tF217_2) ?_
         refine Do 17 Y Y Y (w_store (ov Y) (ov Y) (cells_scal tS28) Y Y Y (Nat.le_of_ble_eq_true Y) (cell1_all Y) Y) ?_
         refine Do 18 Y Y Y (w_mapEntry (m := at__2) (fk := FK3) (fv := FV3) (k := x.At) (z0 := 0) (ov Y) (ov Y) tMp215 tKO3 Y (fun _ => .b Y) (zero_scal tZV3 Y)) ?_
         refine Dq 19 Y Y Y (v_extract (ov Y) Y) ?_
         refine Do 20 Y Y Y (w_entryStore (m := at__2) (fk := FK3) (fv := FV3) (k := x.At) (v := i) (ov Y) (ov Y) (ov Y) tMp215 Y) ?_
         refine D_done (by kernel_rfl) ?_
         exact ⟨(l, (mput kqI at__2 x.At i)), h, Ent.sel [some 0, some 1, some 2, some 3] (sr 3 Y (.ptr _ _ _ Y) <| sr 17 Y (.own _ Y) <| sd 18 Y Y <| sd 19 Y Y <| sn) (.cons Y (ro1 (by exact tZ_217.symm) (rlc (.dat Y) <| rlc (.own _ Y) <| rlc (.own _ Y) <| rlc (.mref _ Y) <| rln)) <| .cons Y (roM D88) <| .cons Y (roM D3) <| .cons Y (roMap (fk := FK3) (fv := FV3) (m := (mput kqI at__2 x.At i)) tZ_215 (fun _ => .dat Y) (fun _ => .ren (.dat Y))) <| .nil) Y Y⟩
       ·
        refine Dq 4 Y Y Y (v_loadS (ov Y) Y Y Y tS215 Y) ?_
        refine Dq 15 Y Y Y (v_nilCheckP (ov Y) Y Y) ?_
        refine Dq 16 Y Y Y (v_fieldP (ov Y) Y Y tF217_2) ?_
        refine Dw 6 17 Y Y Y Y Y Y (v_loadS (ov Y) Y Y Y tS3 (at_get (at0 (hdc (n := 0) hd0)))) (w_store (ov Y) (ov Y) (cells_scal tS28) Y Y Y (Nat.le_of_ble_eq_true Y) (cell1_all Y) Y) ?_ ?_
        ·
         refine Do 17 Y Y Y (w_store (ov Y) (ov Y) (cells_scal tS28) Y Y Y (Nat.le_of_ble_eq_true Y) (cell1_all Y) Y) ?_
         refine Do 18 Y Y Y (w_mapEntry (m := at__2) (fk := FK3) (fv := FV3) (k := x.At) (z0 := 0) (ov Y) (ov Y) tMp215 tKO3 Y (fun _ => .b Y) (zero_scal tZV3 Y)) ?_
         refine Dq 19 Y Y Y (v_extract (ov Y) Y) ?_
         refine Do 20 Y Y Y (w_entryStore (m := at__2) (fk := FK3) (fv := FV3) (k := x.At) (v := i) (ov Y) (ov Y) (ov Y) tMp215 Y) ?_
         refine D_done (by kernel_rfl) ?_
         exact ⟨(l, (mput kqI at__2 x.At i)), h, Ent.sel [some 0, some 1, some 2, some 3] (sr 3 Y (.ptr _ _ _ Y) <| sr 17 Y (.own _ Y) <| sd 18 Y Y <| sd 19 Y Y <| sn) (.cons Y (ro1 (by exact tZ_217.symm) (rlc (.dat Y) <| rlc (.own _ Y) <| rlc (.own _ Y) <| rlc (.mref _ Y) <| rln)) <| .cons Y (roM D88) <| .cons Y (roM D3) <| .cons Y (roMap (fk := FK3) (fv := FV3) (m := (mput kqI at__2 x.At i)) tZ_215 (fun _ => .dat Y) (fun _ => .ren (.dat Y))) <| .nil) Y Y⟩
        ·
         refine Dq 6 Y Y Y (v_loadS (ov Y) Y Y Y tS3 (at_get (at0 (hdc (n := 0) hd0)))) ?_
         refine Do 18 Y Y Y (w_mapEntry (m := at__2) (fk := FK3) (fv := FV3) (k := x.At) (z0 := 0) (ov Y) (ov Y) tMp215 tKO3 Y (fun _ => .b Y) (zero_scal tZV3 Y)) ?_
         refine Dq 19 Y Y Y (v_extract (ov Y) Y) ?_
         refine Do 20 Y Y Y (w_entryStore (m := at__2) (fk := FK3) (fv := FV3) (k := x.At) (v := i) (ov Y) (ov Y) (ov Y) tMp215 Y) ?_
         refine D_done (by kernel_rfl) ?_
         exact ⟨(l, (mput kqI at__2 x.At i)), h, Ent.sel [some 0, some 1, some 2, some 3] (sr 3 Y (.ptr _ _ _ Y) <| sr 17 Y (.own _ Y) <| sd 18 Y Y <| sd 19 Y Y <| sn) (.cons Y (ro1 (by exact tZ_217.symm) (rlc (.dat Y) <| rlc (.own _ Y) <| rlc (.own _ Y) <| rlc (.mref _ Y) <| rln)) <| .cons Y (roM D88) <| .cons Y (roM D3) <| .cons Y (roMap (fk := FK3) (fv := FV3) (m := (mput kqI at__2 x.At i)) tZ_215 (fun _ => .dat Y) (fun _ => .ren (.dat Y))) <| .nil) Y Y⟩
      ·
       refine Dw 3 13 Y Y Y Y Y Y (v_fieldP (ov Y) Y Y tF217_3) (w_appendG (ov Y) (slv_sl (ov Y) tZ_3) tL28 Y Y Y (fun _ => cell1_all Y) Y h_l) ?_ ?_
       ·
        refine Dw 4 13 Y Y Y Y Y Y (v_loadS (ov Y) Y Y Y tS215 Y) (w_appendG (ov Y) (slv_sl (ov Y) tZ_3) tL28 Y Y Y (fun _ => cell1_all Y) Y h_l) ?_ ?_
        ·
         refine Do 13 Y Y Y (w_appendG (ov Y) (slv_sl (ov Y) tZ_3) tL28 Y Y Y (fun _ => cell1_all Y) Y h_l) ?_
         refine Dq 15 Y Y Y (v_nilCheckP (ov Y) Y Y) ?_
         refine Dq 16 Y Y Y (v_fieldP (ov Y) Y Y tF217_2) ?_
         refine Do 17 Y Y Y (w_store (ov Y) (ov Y) (cells_scal tS28) Y Y Y (Nat.le_of_ble_eq_true Y) (cell1_all Y) Y) ?_
         refine Do 18 Y Y Y (w_mapEntry (m := at__2) (fk := FK3) (fv := FV3) (k := x.At) (z0 := 0) (ov Y) (ov Y) tMp215 tKO3 Y (fun _ => .b Y) (zero_scal tZV3 Y)) ?_
         refine Dq 19 Y Y Y (v_extract (ov Y) Y) ?_
         refine Do 20 Y Y Y (w_entryStore (m := at__2) (fk := FK3) (fv := FV3) (k := x.At) (v := i) (ov Y) (ov Y) (ov Y) tMp215 Y) ?_
         refine D_done (by kernel_rfl) ?_
         exact ⟨(l, (mput kqI at__2 x.At i)), h, Ent.sel [some 0, some 1, some 2, some 3] (sr 3 Y (.ptr _ _ _ Y) <| sr 17 Y (.own _ Y) <| sd 18 Y Y <| sd 19 Y Y <| sn) (.cons Y (ro1 (by exact tZ_217.symm) (rlc (.dat Y) <| rlc (.own _ Y) <| rlc (.own _ Y) <| rlc (.mref _ Y) <| rln)) <| .cons Y (roM D88) <| .cons Y (roM D3) <| .cons Y (roMap (fk := FK3) (fv := FV3) (m := (mput kqI at__2 x.At i)) tZ_215 (fun _ => .dat Y) (fun _ => .ren (.dat Y))) <| .nil) Y Y⟩
        ·
         refine Dq 4 Y Y Y (v_loadS (ov Y) Y Y Y tS215 Y) ?_
         refine Dq 15 Y Y Y (v_nilCheckP (ov Y) Y Y) ?_
         refine Dq 16 Y Y Y (v_fieldP (ov Y) Y Y tF217_2) ?_
         refine Do 17 Y Y Y (w_store (ov Y) (ov Y) (cells_scal tS28) Y Y Y (Nat.le_of_ble_eq_true Y) (cell1_all Y) Y) ?_
         refine Do 18 Y Y Y (w_mapEntry (m := at__2) (fk := FK3) (fv := FV3) (k := x.At) (z0 := 0) (ov Y) (ov Y) tMp215 tKO3 Y (fun _ => .b Y) (zero_scal tZV3 Y)) ?_
         refine Dq 19 Y Y Y (v_extract (ov Y) Y) ?_
         refine Do 20 Y Y Y (w_entryStore (m := at__2) (fk := FK3) (fv := FV3) (k := x.At) (v := i) (ov Y) (ov Y) (ov Y) tMp215 Y) ?_
         refine D_done (by kernel_rfl) ?_
         exact ⟨(l, (mput kqI at__2 x.At i)), h, Ent.sel [some 0, some 1, some 2, some 3] (sr 3 Y (.ptr _ _ _ Y) <| sr 17 Y (.own _ Y) <| sd 18 Y Y <| sd 19 Y Y <| sn) (.cons Y (ro1 (by exact tZ_217.symm) (rlc (.dat Y) <| rlc (.own _ Y) <| rlc (.own _ Y) <| rlc (.mref _ Y) <| rln)) <| .cons Y (roM D88) <| .cons Y (roM D3) <| .cons Y (roMap (fk := FK3) (fv := FV3) (m := (mput kqI at__2 x.At i)) tZ_215 (fun _ => .dat Y) (fun _ => .ren (.dat Y))) <| .nil) Y Y⟩
       ·
        refine Dq 3 Y Y Y (v_fieldP (ov Y) Y Y tF217_3) ?_
        refine Dq 4 Y Y Y (v_loadS (ov Y) Y Y Y tS215 Y) ?_
        refine Dq 15 Y Y Y (v_nilCheckP (ov Y) Y Y) ?_
        refine Dq 16 Y Y Y (v_fieldP (ov Y) Y Y tF217_2) ?_
        refine Do 17 Y Y Y (w_store (ov Y) (ov Y) (cells_scal tS28) Y Y Y (Nat.le_of_ble_eq_true Y) (cell1_all Y) Y) ?_
        refine Do 18 Y Y Y (w_mapEntry (m := at__2) (fk := FK3) (fv := FV3) (k := x.At) (z0 := 0) (ov Y) (ov Y) tMp215 tKO3 Y (fun _ => .b Y) (zero_scal tZV3 Y)) ?_
        refine Dq 19 Y Y Y (v_extract (ov Y) Y) ?_
        refine Do 20 Y Y Y (w_entryStore (m := at__2) (fk := FK3) (fv := FV3) (k := x.At) (v := i) (ov Y) (ov Y) (ov Y) tMp215 Y) ?_
        refine D_done (by kernel_rfl) ?_
        exact ⟨(l, (mput kqI at__2 x.At i)), h, Ent.sel [some 0, some 1, some 2, some 3] (sr 3 Y (.ptr _ _ _ Y) <| sr 17 Y (.own _ Y) <| sd 18 Y Y <| sd 19 Y Y <| sn) (.cons Y (ro1 (by exact tZ_217.symm) (rlc (.dat Y) <| rlc (.own _ Y) <| rlc (.own _ Y) <| rlc (.mref _ Y) <| rln)) <| .cons Y (roM D88) <| .cons Y (roM D3) <| .cons Y (roMap (fk := FK3) (fv := FV3) (m := (mput kqI at__2 x.At i)) tZ_215 (fun _ => .dat Y) (fun _ => .ren (.dat Y))) <| .nil) Y Y⟩
      ·
       refine Dq 3 Y Y Y (v_fieldP (ov Y) Y Y tF217_3) ?_
       refine Dq 4 Y Y Y (v_loadS (ov Y) Y Y Y tS215 Y) ?_
       refine Dq 15 Y Y Y (v_nilCheckP (ov Y) Y Y) ?_
       refine Dq 16 Y Y Y (v_fieldP (ov Y) Y Y tF217_2) ?_
       refine Dw 6 17 Y Y Y Y Y Y (v_loadS (ov Y) Y Y Y tS3 (at_get (at0 (hdc (n := 0) hd0)))) (w_store (ov Y) (ov Y) (cells_scal tS28) Y Y Y (Nat.le_of_ble_eq_true Y) (cell1_all Y) Y) ?_ ?_
       ·
        refine Do 17 Y Y Y (w_store (ov Y) (ov Y) (cells_scal tS28) Y Y Y (Nat.le_of_ble_eq_true Y) (cell1_all Y) Y) ?_
        refine Do 18 Y Y Y (w_mapEntry (m := at__2) (fk := FK3) (fv := FV3) (k := x.At) (z0 := 0) (ov Y) (ov Y) tMp215 tKO3 Y (fun _ => .b Y) (zero_scal tZV3 Y)) ?_
        refine Dq 19 Y Y Y (v_extract (ov Y) Y) ?_
        refine Do 20 Y Y Y (w_entryStore (m := at__2) (fk := FK3) (fv := FV3) (k := x.At) (v := i) (ov Y) (ov Y) (ov Y) tMp215 Y) ?_
        refine D_done (by kernel_rfl) ?_
        exact ⟨(l, (mput kqI at__2 x.At i)), h, Ent.sel [some 0, some 1, some 2, some 3] (sr 3 Y (.ptr _ _ _ Y) <| sr 17 Y (.own _ Y) <| sd 18 Y Y <| sd 19 Y Y <| sn) (.cons Y (ro1 (by exact tZ_217.symm) (rlc (.dat Y) <| rlc (.own _ Y) <| rlc (.own _ Y) <| rlc (.mref _ Y) <| rln)) <| .cons Y (roM D88) <| .cons Y (roM D3) <| .cons Y (roMap (fk := FK3) (fv := FV3) (m := (mput kqI at__2 x.At i)) tZ_215 (fun _ => .dat Y) (fun _ => .ren (.dat Y))) <| .nil) Y Y⟩
       ·
        refine Dq 6 Y Y Y (v_loadS (ov Y) Y Y Y tS3 (at_get (at0 (hdc (n := 0) hd0)))) ?_
        refine Do 18 Y Y Y (w_mapEntry (m := at__2) (fk := FK3) (fv := FV3) (k := x.At) (z0 := 0) (ov Y) (ov Y) tMp215 tKO3 Y (fun _ => .b Y) (zero_scal tZV3 Y)) ?_
        refine Dq 19 Y Y Y (v_extract (ov Y) Y) ?_
        refine Do 20 Y Y Y (w_entryStore (m := at__2) (fk := FK3) (fv := FV3) (k := x.At) (v := i) (ov Y) (ov Y) (ov Y) tMp215 Y) ?_
        refine D_done (by kernel_rfl) ?_
        exact ⟨(l, (mput kqI at__2 x.At i)), h, Ent.sel [some 0, some 1, some 2, some 3] (sr 3 Y (.ptr _ _ _ Y) <| sr 17 Y (.own _ Y) <| sd 18 Y Y <| sd 19 Y Y <| sn) (.cons Y (ro1 (by exact tZ_217.symm) (rlc (.dat Y) <| rlc (.own _ Y) <| rlc (.own _ Y) <| rlc (.mref _ Y) <| rln)) <| .cons Y (roM D88) <| .cons Y (roM D3) <| .cons Y (roMap (fk := FK3) (fv := FV3) (m := (mput kqI at__2 x.At i)) tZ_215 (fun _ => .dat Y) (fun _ => .ren (.dat Y))) <| .nil) Y Y⟩
     ·
      refine Dw 2 13 Y Y Y Y Y Y (v_nilCheckP (ov Y) Y Y) (w_appendG (ov Y) (slv_sl (ov Y) tZ_3) tL28 Y Y Y (fun _ => cell1_all Y) Y h_l) ?_ ?_
      ·
       refine Dw 3 13 Y Y Y Y Y Y (v_fieldP (ov Y) Y Y tF217_3) (w_appendG (ov Y) (slv_sl (ov Y) tZ_3) tL28 Y Y Y (fun _ => cell1_all Y) Y h_l) ?_ ?_
       ·
        refine Dw 4 13 Y Y Y Y Y Y (v_loadS (ov Y) Y Y Y tS215 Y) (w_appendG (ov Y) (slv_sl (ov Y) tZ_3) tL28 Y Y Y (fun _ => cell1_all Y) Y h_l) ?_ ?_
        ·
         refine Do 13 Y Y Y (w_appendG (ov Y) (slv_sl (ov Y) tZ_3) tL28 Y Y Y (fun _ => cell1_all Y) Y h_l) ?_
         refine Dq 15 Y Y Y (v_nilCheckP (ov Y) Y Y) ?_
         refine Dq 16 Y Y Y (v_fieldP (ov Y) Y Y tF217_2) ?_
         refine Do 17 Y Y Y (w_store (ov Y) (ov Y) (cells_scal tS28) Y Y Y (Nat.le_of_ble_eq_true Y) (cell1_all Y) Y) ?_
         refine Do 18 Y Y Y (w_mapEntry (m := at__2) (fk := FK3) (fv := FV3) (k := x.At) (z0 := 0) (ov Y) (ov Y) tMp215 tKO3 Y (fun _ => .b Y) (zero_scal tZV3 Y)) ?_
         refine Dq 19 Y Y Y (v_extract (ov Y) Y) ?_
         refine Do 20 Y Y Y (w_entryStore (m := at__2) (fk := FK3) (fv := FV3) (k := x.At) (v := i) (ov Y) (ov Y) (ov Y) tMp215 Y) ?_
         refine D_done (by kernel_rfl) ?_
         exact ⟨(l, (mput kqI at__2 x.At i)), h, Ent.sel [some 0, some 1, some 2, some 3] (sr 3 Y (.ptr _ _ _ Y) <| sr 17 Y (.own _ Y) <| sd 18 Y Y <| sd 19 Y Y <| sn) (.cons Y (ro1 (by exact tZ_217.symm) (rlc (.dat Y) <| rlc (.own _ Y) <| rlc (.own _ Y) <| rlc (.mref _ Y) <| rln)) <| .cons Y (roM D88) <| .cons Y (roM D3) <| .cons Y (roMap (fk := FK3) (fv := FV3) (m := (mput kqI at__2 x.At i)) tZ_215 (fun _ => .dat Y) (fun _ => .ren (.dat Y))) <| .nil) Y Y⟩
        ·
         refine Dq 4 Y Y Y (v_loadS (ov Y) Y Y Y tS215 Y) ?_
         refine Dq 15 Y Y Y (v_nilCheckP (ov Y) Y Y) ?_
         refine Dq 16 Y Y Y (v_fieldP (ov Y) Y Y tF217_2) ?_
         refine Do 17 Y Y Y (w_store (ov Y) (ov Y) (cells_scal tS28) Y Y Y (Nat.le_of_ble_eq_true Y) (cell1_all Y) Y) ?_
         refine Do 18 Y Y Y (w_mapEntry (m := at__2) (fk := FK3) (fv := FV3) (k := x.At) (z0 := 0) (ov Y) (ov Y) tMp215 tKO3 Y (fun _ => .b Y) (zero_scal tZV3 Y)) ?_
         refine Dq 19 Y Y Y (v_extract (ov Y) Y) ?_
         refine Do 20 Y Y Y (w_entryStore (m := at__2) (fk := FK3) (fv := FV3) (k := x.At) (v := i) (ov Y) (ov Y) (ov Y) tMp215 Y) ?_
         refine D_done (by kernel_rfl) ?_
         exact ⟨(l, (mput kqI at__2 x.At i)), h, Ent.sel [some 0, some 1, some 2, some 3] (sr 3 Y (.ptr _ _ _ Y) <| sr 17 Y (.own _ Y) <| sd 18 Y Y <| sd 19 Y Y <| sn) (.cons Y (ro1 (by exact tZ_217.symm) (rlc (.dat Y) <| rlc (.own _ Y) <| rlc (.own _ Y) <| rlc (.mref _ Y) <| rln)) <| .cons Y (roM D88) <| .cons Y (roM D3) <| .cons Y (roMap (fk := FK3) (fv := FV3) (m := (mput kqI at__2 x.At i)) tZ_215 (fun _ => .dat Y) (fun _ => .ren (.dat Y))) <| .nil) Y Y⟩
       ·
        refine Dq 3 Y Y Y (v_fieldP (ov Y) Y Y tF217_3) ?_
        refine Dq 4 Y Y Y (v_loadS (ov Y) Y Y Y tS215 Y) ?_
        refine Dq 15 Y Y Y (v_nilCheckP (ov Y) Y Y) ?_
        refine Dq 16 Y Y Y (v_fieldP (ov Y) Y Y tF217_2) ?_
        refine Do 17 Y Y Y (w_store (ov Y) (ov Y) (cells_scal tS28) Y Y Y (Nat.le_of_ble_eq_true Y) (cell1_all Y) Y) ?_
        refine Do 18 Y Y Y (w_mapEntry (m := at__2) (fk := FK3) (fv := FV3) (k := x.At) (z0 := 0) (ov Y) (ov Y) tMp215 tKO3 Y (fun _ => .b Y) (zero_scal tZV3 Y)) ?_
        refine Dq 19 Y Y Y (v_extract (ov Y) Y) ?_
        refine Do 20 Y Y Y (w_entryStore (m := at__2) (fk := FK3) (fv := FV3) (k := x.At) (v := i) (ov Y) (ov Y) (ov Y) tMp215 Y) ?_
        refine D_done (by kernel_rfl) ?_
        exact ⟨(l, (mput kqI at__2 x.At i)), h, Ent.sel [some 0, some 1, some 2, some 3] (sr 3 Y (.ptr _ _ _ Y) <| sr 17 Y (.own _ Y) <| sd 18 Y Y <| sd 19 Y Y <| sn) (.cons Y (ro1 (by exact tZ_217.symm) (rlc (.dat Y) <| rlc (.own _ Y) <| rlc (.own _ Y) <| rlc (.mref _ Y) <| rln)) <| .cons Y (roM D88) <| .cons Y (roM D3) <| .cons Y (roMap (fk := FK3) (fv := FV3) (m := (mput kqI at__2 x.At i)) tZ_215 (fun _ => .dat Y) (fun _ => .ren (.dat Y))) <| .nil) Y Y⟩
      ·
       refine Dq 2 Y Y Y (v_nilCheckP (ov Y) Y Y) ?_
       refine Dq 3 Y Y Y (v_fieldP (ov Y) Y Y tF217_3) ?_
       refine Dq 4 Y Y Y (v_loadS (ov Y) Y Y Y tS215 Y) ?_
       refine Dq 15 Y Y Y (v_nilCheckP (ov Y) Y Y) ?_
       refine Dq 16 Y Y Y (v_fieldP (ov Y) Y Y tF217_2) ?_
       refine Do 17 Y Y Y (w_store (ov Y) (ov Y) (cells_scal tS28) Y Y Y (Nat.le_of_ble_eq_true Y) (cell1_all Y) Y) ?_
       refine Do 18 Y Y Y (w_mapEntry (m := at__2) (fk := FK3) (fv := FV3) (k := x.At) (z0 := 0) (ov Y) (ov Y) tMp215 tKO3 Y (fun _ => .b Y) (zero_scal tZV3 Y)) ?_
       refine Dq 19 Y Y Y (v_extract (ov Y) Y) ?_
       refine Do 20 Y Y Y (w_entryStore (m := at__2) (fk := FK3) (fv := FV3) (k := x.At) (v := i) (ov Y) (ov Y) (ov Y) tMp215 Y) ?_
       refine D_done (by kernel_rfl) ?_
       exact ⟨(l, (mput kqI at__2 x.At i)), h, Ent.sel [some 0, some 1, some 2, some 3] (sr 3 Y (.ptr _ _ _ Y) <| sr 17 Y (.own _ Y) <| sd 18 Y Y <| sd 19 Y Y <| sn) (.cons Y (ro1 (by exact tZ_217.symm) (rlc (.dat Y) <| rlc (.own _ Y) <| rlc (.own _ Y) <| rlc (.mref _ Y) <| rln)) <| .cons Y (roM D88) <| .cons Y (roM D3) <| .cons Y (roMap (fk := FK3) (fv := FV3) (m := (mput kqI at__2 x.At i)) tZ_215 (fun _ => .dat Y) (fun _ => .ren (.dat Y))) <| .nil) Y Y⟩
     ·
      refine Dq 2 Y Y Y (v_nilCheckP (ov Y) Y Y) ?_
      refine Dq 3 Y Y Y (v_fieldP (ov Y) Y Y tF217_3) ?_
      refine Dq 4 Y Y Y (v_loadS (ov Y) Y Y Y tS215 Y) ?_
      refine Dq 15 Y Y Y (v_nilCheckP (ov Y) Y Y) ?_
      refine Dq 16 Y Y Y (v_fieldP (ov Y) Y Y tF217_2) ?_
      refine Dw 6 17 Y Y Y Y Y Y (v_loadS (ov Y) Y Y Y tS3 (at_get (at0 (hdc (n := 0) hd0)))) (w_store (ov Y) (ov Y) (cells_scal tS28) Y Y Y (Nat.le_of_ble_eq_true Y) (cell1_all Y) Y) ?_ ?_
      ·
       refine Do 17 Y Y Y (w_store (ov Y) (ov Y) (cells_scal tS28) Y Y Y (Nat.le_of_ble_eq_true Y) (cell1_all Y) Y) ?_
       refine Do 18 Y Y Y (w_mapEntry (m := at__2) (fk := FK3) (fv := FV3) (k := x.At) (z0 := 0) (ov Y) (ov Y) tMp215 tKO3 Y (fun _ => .b Y) (zero_scal tZV3 Y)) ?_
       refine Dq 19 Y Y Y (v_extract (ov Y) Y) ?_
       refine Do 20 Y Y Y (w_entryStore (m := at__2) (fk := FK3) (fv := FV3) (k := x.At) (v := i) (ov Y) (ov Y) (ov Y) tMp215 Y) ?_
       refine D_done (by kernel_rfl) ?_
       exact ⟨(l, (mput kqI at__2 x.At i)), h, Ent.sel [some 0, some 1, some 2, some 3] (sr 3 Y (.ptr _ _ _ Y) <| sr 17 Y (.own _ Y) <| sd 18 Y Y <| sd 19 Y Y <| sn) (.cons Y (ro1 (by exact tZ_217.symm) (rlc (.dat Y) <| rlc (.own _ Y) <| rlc (.own _ Y) <| rlc (.mref _ Y) <| rln)) <| .cons Y (roM D88) <| .cons Y (roM D3) <| .cons Y (roMap (fk := FK3) (fv := FV3) (m := (mput kqI at__2 x.At i)) tZ_215 (fun _ => .dat Y) (fun _ => .ren (.dat Y))) <| .nil) Y Y⟩
      ·
       refine Dq 6 Y Y Y (v_loadS (ov Y) Y Y Y tS3 (at_get (at0 (hdc (n := 0) hd0)))) ?_
       refine Do 18 Y Y Y (w_mapEntry (m := at__2) (fk := FK3) (fv := FV3) (k := x.At) (z0 := 0) (ov Y) (ov Y) tMp215 tKO3 Y (fun _ => .b Y) (zero_scal tZV3 Y)) ?_
       refine Dq 19 Y Y Y (v_extract (ov Y) Y) ?_
       refine Do 20 Y Y Y (w_entryStore (m := at__2) (fk := FK3) (fv := FV3) (k := x.At) (v := i) (ov Y) (ov Y) (ov Y) tMp215 Y) ?_
       refine D_done (by kernel_rfl) ?_
       exact ⟨(l, (mput kqI at__2 x.At i)), h, Ent.sel [some 0, some 1, some 2, some 3] (sr 3 Y (.ptr _ _ _ Y) <| sr 17 Y (.own _ Y) <| sd 18 Y Y <| sd 19 Y Y <| sn) (.cons Y (ro1 (by exact tZ_217.symm) (rlc (.dat Y) <| rlc (.own _ Y) <| rlc (.own _ Y) <| rlc (.mref _ Y) <| rln)) <| .cons Y (roM D88) <| .cons Y (roM D3) <| .cons Y (roMap (fk := FK3) (fv := FV3) (m := (mput kqI at__2 x.At i)) tZ_215 (fun _ => .dat Y) (fun _ => .ren (.dat Y))) <| .nil) Y Y⟩
    ·
     refine Dq 2 Y Y Y (v_nilCheckP (ov Y) Y Y) ?_
     refine Dq 3 Y Y Y (v_fieldP (ov Y) Y Y tF217_3) ?_
     refine Dq 4 Y Y Y (v_loadS (ov Y) Y Y Y tS215 Y) ?_
     refine Dq 15 Y Y Y (v_nilCheckP (ov Y) Y Y) ?_
     refine Dq 16 Y Y Y (v_fieldP (ov Y) Y Y tF217_2) ?_
     refine Dw 5 17 Y Y Y Y Y Y (v_fieldP (ov Y) Y Y tF88_0) (w_store (ov Y) (ov Y) (cells_scal tS28) Y Y Y (Nat.le_of_ble_eq_true Y) (cell1_all Y) Y) ?_ ?_
     ·
      refine Dw 6 17 Y Y Y Y Y Y (v_loadS (ov Y) Y Y Y tS3 (at_get (at0 (hdc (n := 0) hd0)))) (w_store (ov Y) (ov Y) (cells_scal tS28) Y Y Y (Nat.le_of_ble_eq_true Y) (cell1_all Y) Y) ?_ ?_
      ·
       refine Do 17 Y Y Y (w_store (ov Y) (ov Y) (cells_scal tS28) Y Y Y (Nat.le_of_ble_eq_true Y) (cell1_all Y) Y) ?_
       refine Do 18 Y Y Y (w_mapEntry (m := at__2) (fk := FK3) (fv := FV3) (k := x.At) (z0 := 0) (ov Y) (ov Y) tMp215 tKO3 Y (fun _ => .b Y) (zero_scal tZV3 Y)) ?_
       refine Dq 19 Y Y Y (v_extract (ov Y) Y) ?_
       refine Do 20 Y Y Y (w_entryStore (m := at__2) (fk := FK3) (fv := FV3) (k := x.At) (v := i) (ov Y) (ov Y) (ov Y) tMp215 Y) ?_
       refine D_done (by kernel_rfl) ?_
       exact ⟨(l, (mput kqI at__2 x.At i)), h, Ent.sel [some 0, some 1, some 2, some 3] (sr 3 Y (.ptr _ _ _ Y) <| sr 17 Y (.own _ Y) <| sd 18 Y Y <| sd 19 Y Y <| sn) (.cons Y (ro1 (by exact tZ_217.symm) (rlc (.dat Y) <| rlc (.own _ Y) <| rlc (.own _ Y) <| rlc (.mref _ Y) <| rln)) <| .cons Y (roM D88) <| .cons Y (roM D3) <| .cons Y (roMap (fk := FK3) (fv := FV3) (m := (mput kqI at__2 x.At i)) tZ_215 (fun _ => .dat Y) (fun _ => .ren (.dat Y))) <| .nil) Y Y⟩
      ·
       refine Dq 6 Y Y Y (v_loadS (ov Y) Y Y Y tS3 (at_get (at0 (hdc (n := 0) hd0)))) ?_
       refine Do 18 Y Y Y (w_mapEntry (m := at__2) (fk := FK3) (fv := FV3) (k := x.At) (z0 := 0) (ov Y) (ov Y) tMp215 tKO3 Y (fun _ => .b Y) (zero_scal tZV3 Y)) ?_
       refine Dq 19 Y Y Y (v_extract (ov Y) Y) ?_
       refine Do 20 Y Y Y (w_entryStore (m := at__2) (fk := FK3) (fv := FV3) (k := x.At) (v := i) (ov Y) (ov Y) (ov Y) tMp215 Y) ?_
       refine D_done (by kernel_rfl) ?_
       exact ⟨(l, (mput kqI at__2 x.At i)), h, Ent.sel [some 0, some 1, some 2, some 3] (sr 3 Y (.ptr _ _ _ Y) <| sr 17 Y (.own _ Y) <| sd 18 Y Y <| sd 19 Y Y <| sn) (.cons Y (ro1 (by exact tZ_217.symm) (rlc (.dat Y) <| rlc (.own _ Y) <| rlc (.own _ Y) <| rlc (.mref _ Y) <| rln)) <| .cons Y (roM D88) <| .cons Y (roM D3) <| .cons Y (roMap (fk := FK3) (fv := FV3) (m := (mput kqI at__2 x.At i)) tZ_215 (fun _ => .dat Y) (fun _ => .ren (.dat Y))) <| .nil) Y Y⟩
     ·
      refine Dq 5 Y Y Y (v_fieldP (ov Y) Y Y tF88_0) ?_
      refine Dq 6 Y Y Y (v_loadS (ov Y) Y Y Y tS3 (at_get (at0 (hdc (n := 0) hd0)))) ?_
      refine Do 18 Y Y Y (w_mapEntry (m := at__2) (fk := FK3) (fv := FV3) (k := x.At) (z0 := 0) (ov Y) (ov Y) tMp215 tKO3 Y (fun _ => .b Y) (zero_scal tZV3 Y)) ?_
      refine Dq 19 Y Y Y (v_extract (ov Y) Y) ?_
      refine Do 20 Y Y Y (w_entryStore (m := at__2) (fk := FK3) (fv := FV3) (k := x.At) (v := i) (ov Y) (ov Y) (ov Y) tMp215 Y) ?_
      refine D_done (by kernel_rfl) ?_
      exact ⟨(l, (mput kqI at__2 x.At i)), h, Ent.sel [some 0, some 1, some 2, some 3] (sr 3 Y (.ptr _ _ _ Y) <| sr 17 Y (.own _ Y) <| sd 18 Y Y <| sd 19 Y Y <| sn) (.cons Y (ro1 (by exact tZ_217.symm) (rlc (.dat Y) <| rlc (.own _ Y) <| rlc (.own _ Y) <| rlc (.mref _ Y) <| rln)) <| .cons Y (roM D88) <| .cons Y (roM D3) <| .cons Y (roMap (fk := FK3) (fv := FV3) (m := (mput kqI at__2 x.At i)) tZ_215 (fun _ => .dat Y) (fun _ => .ren (.dat Y))) <| .nil) Y Y⟩
   ·
    obtain ⟨numbers3, at__3⟩ := j
    replace h := t2i h
    refine t2T ?_
    refine T_reg <| Rq Y (v_add (ov Y) (ov Y) Y) <| Rq Y (v_move (ov Y)) <| R_nil ?_
    exact ⟨(numbers3, at__3, (i64 (i + 1))), h, Ent.sel [some 0, some 1, some 2, some 3] (sr 3 Y (.ptr _ _ _ Y) <| sr 17 Y (.own _ Y) <| sd 18 Y Y <| sd 19 Y Y <| sn) (.cons Y (ro1 (by exact tZ_217.symm) (rlc (.dat Y) <| rlc (.own _ Y) <| rlc (.own _ Y) <| rlc (.mref _ Y) <| rln)) <| .cons Y (roM D88) <| .cons Y (roM D3) <| .cons Y (roMap (fk := FK3) (fv := FV3) (m := at__3) tZ_215 (fun _ => .dat Y) (fun _ => .ren (.dat Y))) <| .nil) Y Y⟩
  ·
   refine T_exit ?_
   rw [lx h] at ho1
   replace h := ho1
   exact ⟨(numbers2, at__2), h, Ent.sel [some 0, some 1, some 2, some 3] (sr 3 Y (.ptr _ _ _ Y) <| sn) (.cons Y (ro1 (by exact tZ_217.symm) (rlc (.dat Y) <| rlc (.own _ Y) <| rlc (.own _ Y) <| rlc (.mref _ Y) <| rln)) <| .cons Y (roM D88) <| .cons Y (roM D3) <| .cons Y (roMap (fk := FK3) (fv := FV3) (m := at__2) tZ_215 (fun _ => .dat Y) (fun _ => .ren (.dat Y))) <| .nil) Y Y⟩
 ·
  obtain ⟨numbers, at__⟩ := j
  replace h := t2i h
  refine t2T ?_
  refine Tr <| Rq Y (v_move (ov Y)) <| Rq Y (v_assign (ov Y)) <| R_nil ?_
  obtain rfl := rt (v := (salvage_finder.mk h_ y numbers ())) h
  refine T_ent (Ent.sel [some 0, none, none, some 3] (sr 2 Y (.ptr (r' := 0) _ _ _ Y) <| sr 3 Y (.ptr (r' := 0) _ _ _ Y) <| sr 50 Y (.ptr (r' := 0) _ _ _ Y) <| sn) (.cons Y (ro1 (by exact tZ_217.symm) (rlc (.dat Y) <| rlc (frzM Y Y Y D88) <| rlc (frzM Y Y Y D3) <| rlc (.mref (r' := 3) _ Y) <| rln)) <| .row 88 <| .row 3 <| .cons Y (roMap (fk := FK3) (fv := FV3) (m := at__) tZ_215 (fun _ => .dat Y) (fun _ => .ren (.dat Y))) <| .nil) Y Y) ?_
  refine T_ent (Ent.sel [some 0, some 1, some 2, some 3] (sr 2 Y (.ptr (r' := 0) _ _ _ Y) <| sr 3 Y (.ptr (r' := 0) _ _ _ Y) <| sr 50 Y (.ptr (r' := 0) _ _ _ Y) <| sn) (.cons Y (ro1 (by exact tZ_217.symm) (rlc (.dat Y) <| rlc (.dat Y) <| rlc (.dat Y) <| rlc (.out _) <| rln)) <| .cons Y (roE) <| .cons Y (roE) <| .cons Y (roMap (fk := FK3) (fv := FV3) (m := at__) tZ_215 (fun _ => .dat Y) (fun _ => .ren (.dat Y))) <| .nil) Y Y) ?_
  refine T_ent (Ent.sel [none, some 1, some 2, some 3] (sr 2 Y (.frp ⟨Y, ⟨_, Y⟩, Y, Y⟩) <| sr 3 Y (.frp ⟨Y, ⟨_, Y⟩, Y, Y⟩) <| sr 50 Y (.frp ⟨Y, ⟨_, Y⟩, Y, Y⟩) <| sn) (.row 217 <| .cons Y (roE) <| .cons Y (roE) <| .cons Y (roMap (fk := FK3) (fv := FV3) (m := at__) tZ_215 (fun _ => .dat Y) (fun _ => .ren (.dat Y))) <| .nil) Y Y) ?_
  refine T_ret (retq ?_ (.one (.tmp Y (Dat.view (.b Y)))))
  rfl
end Go.Proofs.YtciaeohnkfnamaaGreatDoor
