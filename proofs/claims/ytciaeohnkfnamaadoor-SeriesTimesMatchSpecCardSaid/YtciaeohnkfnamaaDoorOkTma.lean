/- A text of the proof: a verified executor of the program form, or the contracts of the functions that the law reaches. -/
import Derived.Test.YtciaeohnkfnamaaDoorShT
import Derived.Test.YtciaeohnkfnamaaDoorProg
import Derived.Test.YtciaeohnkfnamaaDoorLayD
set_option linter.all false
namespace Go.Proofs.YtciaeohnkfnamaaDoor
open Go Go.Vx
set_option maxRecDepth 10000
set_option maxHeartbeats 1000000
set_option linter.unusedVariables false
theorem tZ_113 : Tryd.prog.cellsOf 113 = 4 := by kernel_rfl
theorem tZ_9 : Tryd.prog.cellsOf 9 = 1 := by kernel_rfl
theorem tZ_25 : Tryd.prog.cellsOf 25 = 8 := by kernel_rfl
theorem tA25 : tAgg Tryd.prog 25 8 = true := by kernel_rfl
theorem tF25_0 : tFld Tryd.prog 25 0 0 = true := by kernel_rfl
theorem tS9 : tScal Tryd.prog 9 = true := by kernel_rfl
theorem tStr9 : tStr Tryd.prog 9 = true := by kernel_rfl
theorem tF25_1 : tFld Tryd.prog 25 1 1 = true := by kernel_rfl
theorem tS3 : tScal Tryd.prog 3 = true := by kernel_rfl
theorem tF25_2 : tFld Tryd.prog 25 2 2 = true := by kernel_rfl
theorem tS22 : tScal Tryd.prog 22 = true := by kernel_rfl
theorem tL22 : tSl Tryd.prog 22 113 4 32 = true := by kernel_rfl
theorem tA113 : tAgg Tryd.prog 113 4 = true := by kernel_rfl
theorem tZ113 : zeroOf Tryd.prog 113 = some [.int .i64 0, .int .i64 0, .int .i64 0, .int .i64 0] := by kernel_rfl
theorem tF113_0 : tFld Tryd.prog 113 0 0 = true := by kernel_rfl
theorem tF113_1 : tFld Tryd.prog 113 1 1 = true := by kernel_rfl
theorem tF113_2 : tFld Tryd.prog 113 2 2 = true := by kernel_rfl
theorem tF113_3 : tFld Tryd.prog 113 3 3 = true := by kernel_rfl
theorem tL26 : tSl Tryd.prog 26 3 1 8 = true := by kernel_rfl
theorem tZ_3 : Tryd.prog.cellsOf 3 = 1 := by kernel_rfl
theorem tF25_4 : tFld Tryd.prog 25 4 4 = true := by kernel_rfl
theorem tF25_3 : tFld Tryd.prog 25 3 3 = true := by kernel_rfl
theorem tF25_5 : tFld Tryd.prog 25 5 5 = true := by kernel_rfl
theorem tF25_6 : tFld Tryd.prog 25 6 6 = true := by kernel_rfl
theorem tB4 : (match Tryd.prog.underlying 4 with | some .bool => true | _ => false) = true := by kernel_rfl
theorem tF25_7 : tFld Tryd.prog 25 7 7 = true := by kernel_rfl
theorem tS23 : tScal Tryd.prog 23 = true := by kernel_rfl
theorem tL23 : tSl Tryd.prog 23 9 1 16 = true := by kernel_rfl
theorem tMp83 : tMap Tryd.prog 83 123 3 = true := by kernel_rfl
theorem tZ3 : zeroOf Tryd.prog 3 = some [.int .i64 0] := by kernel_rfl
theorem tL45 : tSl Tryd.prog 45 87 4 48 = true := by kernel_rfl
theorem tPL87 : structPl Tryd.prog 87 = some [(0, 1), (1, 1), (2, 1), (3, 1)] := by kernel_rfl
theorem tHA87 : hasAll Tryd.prog 87 = true := by kernel_rfl
theorem tZ87 : zeroOf Tryd.prog 87 = some [.int .i64 0, .int .i64 0, .int .i64 0, .slice none 0 0] := by kernel_rfl
theorem tZ_87 : Tryd.prog.cellsOf 87 = 4 := by kernel_rfl
theorem tA87 : tAgg Tryd.prog 87 4 = true := by kernel_rfl
theorem tF87_3 : tFld Tryd.prog 87 3 3 = true := by kernel_rfl
theorem tS85 : tScal Tryd.prog 85 = true := by kernel_rfl
theorem tZ118 : zeroOf Tryd.prog 118 = some [.int .i64 0, .int .i64 0, .int .i64 0, .int .i64 0] := by kernel_rfl
theorem tZ_118 : Tryd.prog.cellsOf 118 = 4 := by kernel_rfl
theorem tPL118 : structPl Tryd.prog 118 = some [(0, 1), (1, 1), (2, 1), (3, 1)] := by kernel_rfl
theorem tHA118 : hasAll Tryd.prog 118 = true := by kernel_rfl
theorem tA118 : tAgg Tryd.prog 118 4 = true := by kernel_rfl
theorem tL85 : tSl Tryd.prog 85 118 4 32 = true := by kernel_rfl
theorem tFS123 : flatSt Tryd.prog 123 [.i .i64, .i .i64, .i .i64] = true := by kernel_rfl
theorem tZV3 : zeroV Tryd.prog 3 = some (.int .i64 0) := by kernel_rfl
theorem tF118_3 : tFld Tryd.prog 118 3 3 = true := by kernel_rfl
theorem tF118_0 : tFld Tryd.prog 118 0 0 = true := by kernel_rfl
theorem tF118_1 : tFld Tryd.prog 118 1 1 = true := by kernel_rfl
theorem tF118_2 : tFld Tryd.prog 118 2 2 = true := by kernel_rfl
theorem tPL123 : structPl Tryd.prog 123 = some [(0, 1), (1, 1), (2, 1)] := by kernel_rfl
theorem tHA123 : hasAll Tryd.prog 123 = true := by kernel_rfl
theorem tZ123 : zeroOf Tryd.prog 123 = some [.int .i64 0, .int .i64 0, .int .i64 0] := by kernel_rfl
theorem tL120 : tSl Tryd.prog 120 123 3 24 = true := by kernel_rfl
theorem tZ_123 : Tryd.prog.cellsOf 123 = 3 := by kernel_rfl
theorem tA123 : tAgg Tryd.prog 123 3 = true := by kernel_rfl
theorem tZ_83 : Tryd.prog.cellsOf 83 = 1 := by kernel_rfl
theorem tL48 : tSl Tryd.prog 48 25 8 104 = true := by kernel_rfl
theorem tPL50 : structPl Tryd.prog 50 = some [(0, 1), (1, 1)] := by kernel_rfl
theorem tHA50 : hasAll Tryd.prog 50 = true := by kernel_rfl
theorem tZ50 : zeroOf Tryd.prog 50 = some [.int .i64 0, .slice none 0 0] := by kernel_rfl
theorem tZ_50 : Tryd.prog.cellsOf 50 = 2 := by kernel_rfl
theorem tA50 : tAgg Tryd.prog 50 2 = true := by kernel_rfl
theorem tF50_0 : tFld Tryd.prog 50 0 0 = true := by kernel_rfl
theorem tF50_1 : tFld Tryd.prog 50 1 1 = true := by kernel_rfl
theorem tS48 : tScal Tryd.prog 48 = true := by kernel_rfl
theorem tZ25 : zeroOf Tryd.prog 25 = some [.string ⟨#[]⟩, .int .i64 0, .slice none 0 0, .int .i64 0, .int .i64 0, .int .i64 0, .int .i64 0, .slice none 0 0] := by kernel_rfl
theorem tF87_2 : tFld Tryd.prog 87 2 2 = true := by kernel_rfl
theorem tF87_1 : tFld Tryd.prog 87 1 1 = true := by kernel_rfl
theorem tPL54 : structPl Tryd.prog 54 = some [(0, 1)] := by kernel_rfl
theorem tHA54 : hasAll Tryd.prog 54 = true := by kernel_rfl
theorem tZ54 : zeroOf Tryd.prog 54 = some [.slice none 0 0] := by kernel_rfl
theorem tA54 : tAgg Tryd.prog 54 1 = true := by kernel_rfl
theorem tZ_5 : Tryd.prog.cellsOf 5 = 1 := by kernel_rfl
theorem tZ_54 : Tryd.prog.cellsOf 54 = 1 := by kernel_rfl
theorem tF54_0 : tFld Tryd.prog 54 0 0 = true := by kernel_rfl
theorem tS33 : tScal Tryd.prog 33 = true := by kernel_rfl
theorem tI2 : tInt Tryd.prog 2 .i64 = true := by kernel_rfl
theorem tI180 : tInt Tryd.prog 180 .u64 = true := by kernel_rfl
theorem tL33 : tSl Tryd.prog 33 5 1 1 = true := by kernel_rfl
theorem tI3 : tInt Tryd.prog 3 .i64 = true := by kernel_rfl
theorem tZ206 : zeroOf Tryd.prog 206 = some [.int .u8 0, .int .u8 0, .int .u8 0, .int .u8 0, .int .u8 0, .int .u8 0, .int .u8 0, .int .u8 0, .int .u8 0, .int .u8 0, .int .u8 0, .int .u8 0, .int .u8 0, .int .u8 0, .int .u8 0, .int .u8 0, .int .u8 0, .int .u8 0, .int .u8 0, .int .u8 0, .int .u8 0, .int .u8 0, .int .u8 0, .int .u8 0] := by kernel_rfl
theorem tZ_206 : Tryd.prog.cellsOf 206 = 24 := by kernel_rfl
theorem tR206 : tArr Tryd.prog 206 24 5 1 = true := by kernel_rfl
theorem tU85 : tU8 Tryd.prog 5 = true := by kernel_rfl
theorem tMp95 : tMap Tryd.prog 95 157 4 = true := by kernel_rfl
theorem tIA157 : tIntA Tryd.prog 157 3 3 .i64 = true := by kernel_rfl
theorem tZV4 : zeroV Tryd.prog 4 = some (.bool false) := by kernel_rfl
theorem tR157 : tArr Tryd.prog 157 3 3 1 = true := by kernel_rfl
theorem tZ157 : zeroOf Tryd.prog 157 = some [.int .i64 0, .int .i64 0, .int .i64 0] := by kernel_rfl
theorem tZ_157 : Tryd.prog.cellsOf 157 = 3 := by kernel_rfl
theorem tA157 : tAgg Tryd.prog 157 3 = true := by kernel_rfl
theorem tZ_95 : Tryd.prog.cellsOf 95 = 1 := by kernel_rfl
theorem tF87_0 : tFld Tryd.prog 87 0 0 = true := by kernel_rfl
theorem tMp97 : tMap Tryd.prog 97 3 3 = true := by kernel_rfl
theorem tZ_97 : Tryd.prog.cellsOf 97 = 1 := by kernel_rfl
theorem tPL60 : structPl Tryd.prog 60 = some [(0, 1), (1, 1), (2, 1)] := by kernel_rfl
theorem tHA60 : hasAll Tryd.prog 60 = true := by kernel_rfl
theorem tZ60 : zeroOf Tryd.prog 60 = some [.int .i64 0, .int .i64 0, .int .i64 0] := by kernel_rfl
theorem tL63 : tSl Tryd.prog 63 60 3 24 = true := by kernel_rfl
theorem tZ_60 : Tryd.prog.cellsOf 60 = 3 := by kernel_rfl
theorem tPL65 : structPl Tryd.prog 65 = some [(0, 1), (1, 1)] := by kernel_rfl
theorem tHA65 : hasAll Tryd.prog 65 = true := by kernel_rfl
theorem tZ65 : zeroOf Tryd.prog 65 = some [.int .i64 0, .slice none 0 0] := by kernel_rfl
theorem tZ_65 : Tryd.prog.cellsOf 65 = 2 := by kernel_rfl
theorem tA65 : tAgg Tryd.prog 65 2 = true := by kernel_rfl
theorem tF65_0 : tFld Tryd.prog 65 0 0 = true := by kernel_rfl
theorem tF65_1 : tFld Tryd.prog 65 1 1 = true := by kernel_rfl
theorem tS63 : tScal Tryd.prog 63 = true := by kernel_rfl
theorem tA60 : tAgg Tryd.prog 60 3 = true := by kernel_rfl
theorem tF60_0 : tFld Tryd.prog 60 0 0 = true := by kernel_rfl
theorem tF60_1 : tFld Tryd.prog 60 1 1 = true := by kernel_rfl
theorem tF60_2 : tFld Tryd.prog 60 2 2 = true := by kernel_rfl
theorem tI101 : tInt Tryd.prog 101 .u64 = true := by kernel_rfl
theorem tFS60 : flatSt Tryd.prog 60 [.i .i64, .i .i64, .i .i64] = true := by kernel_rfl
def gl0 : Gl := ⟨2, [(1, (Go.Lib.pow10Tab.map fun z => Value.int .u64 z).toArray)]⟩
def R113 (x : api_Part) : List AV := [.int .i64 x.Frame, .int .i64 x.Word, .int .i64 x.Low, .int .i64 x.Bits]
def R9 (x : Str) : List AV := [.str x]
def R3 (x : Int) : List AV := [.int .i64 x]
theorem D3 (x : Int) : (R3 x).length = Tryd.prog.cellsOf 3 ∧ (R3 x).all datB = true := ⟨tZ_3.symm, rfl⟩
def R118 (x : api_Place) : List AV := [.int .i64 x.Frame, .int .i64 x.Word, .int .i64 x.Low, .int .i64 x.Bits]
theorem D118 (x : api_Place) : (R118 x).length = Tryd.prog.cellsOf 118 ∧ (R118 x).all datB = true := ⟨tZ_118.symm, rfl⟩
def R87 (x : api_Cell) : List AV := [.int .i64 x.Param, .int .i64 x.Index, .int .i64 x.Frame, .sl 118 (List.map R118 x.Places)]
theorem D87 (x : api_Cell) : (R87 x).length = Tryd.prog.cellsOf 87 ∧ (R87 x).all datB = true := ⟨tZ_87.symm, rfl⟩
def FK123 (x : layout_bit) : AV := .agg [.int .i64 x.frame, .int .i64 x.word, .int .i64 x.bit]
theorem tKO123 : KeyOK Tryd.prog 123 FK123 kq_layout_bit := key_struct tFS123 (fun _ => rfl)
def FV3 (x : Int) : AV := .int .i64 x
def R123 (x : layout_bit) : List AV := [.int .i64 x.frame, .int .i64 x.word, .int .i64 x.bit]
theorem D123 (x : layout_bit) : (R123 x).length = Tryd.prog.cellsOf 123 ∧ (R123 x).all datB = true := ⟨tZ_123.symm, rfl⟩
def R25 (x : api_Param) : List AV := [.str x.Name, .int .i64 x.Kind, .sl 113 (List.map R113 x.Parts), .int .i64 x.First, .int .i64 x.Every, .int .i64 x.Times, .int .i64 x.Step, .sl 9 (List.map R9 x.Names)]
def R5 (x : Int) : List AV := [.int .u8 x]
theorem D5 (x : Int) : (R5 x).length = Tryd.prog.cellsOf 5 ∧ (R5 x).all datB = true := ⟨tZ_5.symm, rfl⟩
def C5 (x : Int) : AV := .int .u8 x
def C3 (x : Int) : AV := .int .i64 x
def FK157 (x : Vector Int 3) : AV := .agg (List.map C3 x.toList)
theorem tKO157 : KeyOK Tryd.prog 157 FK157 kqV := key_arr (fun _ => rfl) tIA157
def FV4 (x : Bool) : AV := .bool x
def FK3 (x : Int) : AV := .int .i64 x
theorem tKO3 : KeyOK Tryd.prog 3 FK3 kqI := key_int (fun _ => rfl) tI3
def R60 (x : api_Sample) : List AV := [.int .i64 x.At, .int .i64 x.N, .int .i64 x.Mark]

theorem ok_contf {s : Str} {f : Int → Option Bool} {r : Bool} {f_f : FuncId} {f_c : List AV} (f_d : f_c.all datB = true) (f_h : ∀ (z0 : Int) z, f z0 = some z → CSpec Tryd.prog gl0 f_f ([.int .i32 z0] ++ f_c) (.bool z)) (h : containsFunc s f = some r) :
  CSpec Tryd.prog gl0 62 [.str s, .fn f_f f_c] (.bool r) :=
 ok_containsFunc (by kernel_rfl) (fun g lb eg p s w hp => Any.strings_ContainsFunc_grows Tryd.laysGw17 g lb eg p s w hp) f_d f_h h

theorem ok_layout_isName_1 {c_ : Int} {r : Bool} (h : layout_isName_1 c_ = some r) :
  CSpec Tryd.prog gl0 63 [.int .i32 c_] (.bool r) := by
 unfold layout_isName_1 at h
 replace h := bnd0 h
 refine spec_of (by kernel_rfl) Tryd.func63 rfl rfl ?_
 intro w0 A
 refine T_seq (T_reg ?_)
 refine R_q _ rfl (v_assign (ov rfl)) ?_
 refine R_nil ?_
 refine T_seq (T_reg ?_)
 refine R_q _ rfl (v_move (ov rfl)) ?_
 refine R_q _ rfl (v_geq (ov rfl) (ov rfl)) ?_
 refine R_q _ rfl (v_move (ov rfl)) ?_
 refine R_q _ rfl (.guarded ((decide (97 ≤ c_)) == true) rfl rfl rfl rfl fun h => v_move (ov rfl)) ?_
 refine R_q _ rfl (.guarded ((decide (97 ≤ c_)) == true) rfl rfl rfl rfl fun h => v_leq (ow rfl h) (ov rfl)) ?_
 refine R_q _ rfl (v_and (ov rfl) (fun hp => ow rfl (gT hp))) ?_
 refine R_q _ rfl (v_move (ov rfl)) ?_
 refine R_q _ rfl (.guarded (((decide (97 ≤ c_)) && (decide (c_ ≤ 122))) == false) rfl rfl rfl rfl fun h => v_move (ov rfl)) ?_
 refine R_q _ rfl (.guarded (((decide (97 ≤ c_)) && (decide (c_ ≤ 122))) == false) rfl rfl rfl rfl fun h => v_geq (ow rfl h) (ov rfl)) ?_
 refine R_q _ rfl (.guarded (((decide (97 ≤ c_)) && (decide (c_ ≤ 122))) == false) rfl rfl rfl rfl fun h => v_move (ow rfl h)) ?_
 refine R_q _ rfl (.guarded2 ((((decide (97 ≤ c_)) && (decide (c_ ≤ 122))) == false) && ((decide (48 ≤ c_)) == true)) rfl rfl rfl rfl fun h => v_move (ov rfl)) ?_
 refine R_q _ rfl (.guarded2 ((((decide (97 ≤ c_)) && (decide (c_ ≤ 122))) == false) && ((decide (48 ≤ c_)) == true)) rfl rfl rfl rfl fun h => v_leq (ow rfl h) (ov rfl)) ?_
 refine R_q _ rfl (.guarded (((decide (97 ≤ c_)) && (decide (c_ ≤ 122))) == false) rfl rfl rfl rfl fun h => v_and (ow rfl h) (fun hp => ow rfl (gA h (gT hp)))) ?_
 refine R_q _ rfl (v_or (ov rfl) (fun hp => ow rfl (gF hp))) ?_
 refine R_q _ rfl (v_move (ov rfl)) ?_
 refine R_q _ rfl (.guarded ((((decide (97 ≤ c_)) && (decide (c_ ≤ 122))) || ((decide (48 ≤ c_)) && (decide (c_ ≤ 57)))) == false) rfl rfl rfl rfl fun h => v_move (ov rfl)) ?_
 refine R_q _ rfl (.guarded ((((decide (97 ≤ c_)) && (decide (c_ ≤ 122))) || ((decide (48 ≤ c_)) && (decide (c_ ≤ 57)))) == false) rfl rfl rfl rfl fun h => v_eql (ow rfl h) (ov rfl)) ?_
 refine R_q _ rfl (v_or (ov rfl) (fun hp => ow rfl (gF hp))) ?_
 refine R_q _ rfl (v_not (ov rfl)) ?_
 refine R_q _ rfl (v_assign (ov rfl)) ?_
 refine R_nil ?_
 obtain rfl := rt (v := (!((((decide (97 ≤ c_)) && (decide (c_ ≤ 122))) || ((decide (48 ≤ c_)) && (decide (c_ ≤ 57)))) || (decide (c_ = 45))))) h
 refine T_ret (retq ?_ (.one (.tmp rfl (Dat.view (.b rfl)))))
 rfl

theorem ok_layout_isName {s : Str} {r : Bool} (h : layout_isName s = some r) :
  CSpec Tryd.prog gl0 34 [.str s] (.bool r) := by
 unfold layout_isName at h
 replace h := bnd0 h
 refine spec_of (by kernel_rfl) Tryd.func34 rfl rfl ?_
 intro w0 A
 refine T_seq (T_reg ?_)
 refine R_q _ rfl (v_assign (ov rfl)) ?_
 refine R_nil ?_
 refine T_seq ?_
 refine T_keep (kc 0 rfl <| kn) rfl ?_
 refine T_seq (T_reg ?_)
 refine R_q _ rfl (v_move (ov rfl)) ?_
 refine R_q _ rfl (v_lenStr (ov rfl) tStr9 rfl) ?_
 refine R_q _ rfl (v_lss (ov rfl) (ov rfl)) ?_
 refine R_q _ rfl (v_move (ov rfl)) ?_
 refine R_q _ rfl (.guarded ((decide ((s.length : Int) < 1)) == false) rfl rfl rfl rfl fun h => v_move (ov rfl)) ?_
 refine R_q _ rfl (.guarded ((decide ((s.length : Int) < 1)) == false) rfl rfl rfl rfl fun h => v_lenStr (ow rfl h) tStr9 rfl) ?_
 refine R_q _ rfl (.guarded ((decide ((s.length : Int) < 1)) == false) rfl rfl rfl rfl fun h => v_gtr (ow rfl h) (ov rfl)) ?_
 refine R_q _ rfl (v_or (ov rfl) (fun hp => ow rfl (gF hp))) ?_
 refine R_q _ rfl (v_move (ov rfl)) ?_
 refine R_q _ rfl (.guarded (((decide ((s.length : Int) < 1)) || (decide (30 < (s.length : Int)))) == false) rfl rfl rfl rfl fun h => v_move (ov rfl)) ?_
 obtain ⟨b, h_b, h⟩ := bnd h
 refine R_q _ rfl (.guarded (((decide ((s.length : Int) < 1)) || (decide (30 < (s.length : Int)))) == false) rfl rfl rfl rfl fun h => v_idxStr (ow rfl h) (ov rfl) tStr9 (gdT h_b h)) ?_
 refine R_q _ rfl (.guarded (((decide ((s.length : Int) < 1)) || (decide (30 < (s.length : Int)))) == false) rfl rfl rfl rfl fun h => v_lss (ow rfl h) (ov rfl)) ?_
 refine R_q _ rfl (v_or (ov rfl) (fun hp => ow rfl (gF hp))) ?_
 refine R_q _ rfl (v_move (ov rfl)) ?_
 refine R_q _ rfl (.guarded ((((decide ((s.length : Int) < 1)) || (decide (30 < (s.length : Int)))) || (decide (b < 97))) == false) rfl rfl rfl rfl fun h => v_move (ov rfl)) ?_
 obtain ⟨b2, h_b2, h⟩ := bnd h
 refine R_q _ rfl (.guarded ((((decide ((s.length : Int) < 1)) || (decide (30 < (s.length : Int)))) || (decide (b < 97))) == false) rfl rfl rfl rfl fun h => v_idxStr (ow rfl h) (ov rfl) tStr9 (gdT h_b2 h)) ?_
 refine R_q _ rfl (.guarded ((((decide ((s.length : Int) < 1)) || (decide (30 < (s.length : Int)))) || (decide (b < 97))) == false) rfl rfl rfl rfl fun h => v_gtr (ow rfl h) (ov rfl)) ?_
 refine R_q _ rfl (v_or (ov rfl) (fun hp => ow rfl (gF hp))) ?_
 refine R_nil ?_
 refine T_keep (kc 0 rfl <| kc 20 rfl <| kn) rfl ?_
 refine T_if h rfl (fun b20 h => ?_) (fun b20 h => ?_)
 ·
  refine T_keep (kn) rfl ?_
  refine T_seq (T_reg ?_)
  refine R_q _ rfl (v_assign (ov rfl)) ?_
  refine R_nil ?_
  obtain rfl := rt (v := false) h
  refine T_ret (retq ?_ (.one (.tmp rfl (Dat.view (.b rfl)))))
  rfl
 ·
  refine T_skip ?_
  refine T_keep (kc 0 rfl <| kn) rfl ?_
  refine T_seq (T_reg ?_)
  refine R_q _ rfl (v_move (ov rfl)) ?_
  obtain ⟨y, h_y, h⟩ := bnd h
  refine R_q _ rfl (v_call (ok_contf rfl (fun z0 _ hz => ok_layout_isName_1 hz) h_y) (.cons (ov rfl) (.b rfl) <| .cons (ov rfl) (.fn) <| .nil)) ?_
  refine R_q _ rfl (v_not (ov rfl)) ?_
  refine R_q _ rfl (v_assign (ov rfl)) ?_
  refine R_nil ?_
  obtain rfl := rt (v := (!y)) h
  refine T_ret (retq ?_ (.one (.tmp rfl (Dat.view (.b rfl)))))
  rfl

theorem ok_layout_within {n : Int} {low : Int} {high : Int} {r : Bool} (h : layout_within n low high = some r) :
  CSpec Tryd.prog gl0 35 [.int .i64 n, .int .i64 low, .int .i64 high] (.bool r) := by
 unfold layout_within at h
 replace h := bnd0 h
 refine spec_of (by kernel_rfl) Tryd.func35 rfl rfl ?_
 intro w0 A
 refine T_seq (T_reg ?_)
 refine R_q _ rfl (v_assign (ov rfl)) ?_
 refine R_nil ?_
 refine T_seq (T_reg ?_)
 refine R_q _ rfl (v_move (ov rfl)) ?_
 refine R_q _ rfl (v_move (ov rfl)) ?_
 refine R_q _ rfl (v_geq (ov rfl) (ov rfl)) ?_
 refine R_q _ rfl (v_move (ov rfl)) ?_
 refine R_q _ rfl (.guarded ((decide (low ≤ n)) == true) rfl rfl rfl rfl fun h => v_move (ov rfl)) ?_
 refine R_q _ rfl (.guarded ((decide (low ≤ n)) == true) rfl rfl rfl rfl fun h => v_move (ov rfl)) ?_
 refine R_q _ rfl (.guarded ((decide (low ≤ n)) == true) rfl rfl rfl rfl fun h => v_leq (ow rfl h) (ow rfl h)) ?_
 refine R_q _ rfl (v_and (ov rfl) (fun hp => ow rfl (gT hp))) ?_
 refine R_q _ rfl (v_assign (ov rfl)) ?_
 refine R_nil ?_
 obtain rfl := rt (v := ((decide (low ≤ n)) && (decide (n ≤ high)))) h
 refine T_ret (retq ?_ (.one (.tmp rfl (Dat.view (.b rfl)))))
 rfl

theorem ok_layout_bitsOf {p : api_Param} {r : Int} (h : layout_bitsOf p = some r) :
  CSpec Tryd.prog gl0 64 [.agg [.str p.Name, .int .i64 p.Kind, .sl 113 (List.map R113 p.Parts), .int .i64 p.First, .int .i64 p.Every, .int .i64 p.Times, .int .i64 p.Step, .sl 9 (List.map R9 p.Names)]] (.int .i64 r) := by
 unfold layout_bitsOf at h
 replace h := bnd0 h
 refine spec_of (by kernel_rfl) Tryd.func64 rfl rfl ?_
 intro w0 A
 refine T_seq (T_reg ?_)
 refine R_q _ rfl (v_boxD (cva (ov rfl)) rfl tZ_25 rfl) ?_
 refine R_q _ rfl (v_assign (ov rfl)) ?_
 refine R_nil ?_
 refine T_keep (kc 1 rfl <| kn) rfl ?_
 refine T_seq (T_reg ?_)
 refine R_q _ rfl (v_assign (ov rfl)) ?_
 refine R_nil ?_
 refine T_joinG id (t1 fun n => ⟨[(3, .int .i64 n)], []⟩) h (fun h => ?_) (fun j h => ?_)
 ·
  refine T_seq (T_reg ?_)
  refine R_q _ rfl (v_fieldR (ov rfl) tF25_2) ?_
  refine R_q _ rfl (v_loadS_r (ov rfl) tS22 rfl) ?_
  refine R_q _ rfl (v_len (slv_sl (ov rfl) tZ_113) tL22 (len_map _ _)) ?_
  refine R_q _ rfl (v_move (ov rfl)) ?_
  refine R_nil ?_
  refine T_block ?_
  obtain ⟨r1, hl1, ho1⟩ := bndL h
  refine T_loopG _ (t2 fun n2 i => ⟨[(3, .int .i64 n2), (7, .sl 113 (List.map R113 p.Parts)), (8, .int .i64 (p.Parts.length : Int)), (9, .int .i64 i)], []⟩) _ hl1 (Ent.sel [] (sd 3 rfl rfl <| sd 7 rfl rfl <| sd 8 rfl rfl <| sd 9 rfl rfl <| sn) (.nil) rfl rfl) (fun n1 s1 h => ?_)
  obtain ⟨n2, i⟩ := s1
  replace h := t2i h
  refine t2T ?_
  unfold layout_bitsOf_L1 at h
  refine T_seq (T_reg ?_)
  refine R_q _ rfl (v_lss (ov rfl) (ov rfl)) ?_
  refine R_nil ?_
  refine T_seq ?_
  refine T_if h rfl (fun b10 h => ?_) (fun b10 h => ?_)
  ·
   refine T_skip ?_
   refine T_seq ?_
   refine T_block ?_
   refine T_keep (kc 3 rfl <| kc 7 rfl <| kc 8 rfl <| kc 9 rfl <| kn) rfl ?_
   refine T_seq (T_reg ?_)
   obtain ⟨x, h_x, h⟩ := bnd h
   refine R_q _ rfl (v_ixSG (ov rfl) (ov rfl) tL22 h_x) ?_
   refine R_q _ rfl (v_loadA_r (ov rfl) tA113 rfl rfl) ?_
   refine R_w _ _ rfl (w_alloc (row := [_, _, _, _]) 0 rfl tZ113 rfl tZ_113) ?_
   refine R_w _ _ rfl (w_store (ov rfl) (ov rfl) (cells_agg tA113 rfl) rfl rfl rfl (Nat.le_of_ble_eq_true rfl) (cell1_all rfl) rfl) ?_
   refine R_nil ?_
   refine T_keep (kc 3 rfl <| kc 5 rfl <| kc 7 rfl <| kc 8 rfl <| kc 9 rfl <| kn) rfl ?_
   refine T_reg ?_
   refine R_q _ rfl (v_move (ov rfl)) ?_
   refine R_q _ rfl (v_fieldP (ov rfl) rfl rfl tF113_3) ?_
   refine R_q _ rfl (v_loadS (ov rfl) rfl rfl rfl tS3 rfl) ?_
   refine R_q _ rfl (v_add (ov rfl) (ov rfl) rfl) ?_
   refine R_q _ rfl (v_assign (ov rfl)) ?_
   refine R_nil ?_
   refine T_keep (kc 3 rfl <| kc 7 rfl <| kc 8 rfl <| kc 9 rfl <| kn) rfl ?_
   refine T_reg ?_
   refine R_q _ rfl (v_add (ov rfl) (ov rfl) rfl) ?_
   refine R_q _ rfl (v_move (ov rfl)) ?_
   refine R_nil ?_
   exact ⟨((i64 (n2 + x.Bits)), (i64 (i + 1))), h, Ent.sel [] (sd 3 rfl rfl <| sd 7 rfl rfl <| sd 8 rfl rfl <| sd 9 rfl rfl <| sn) (.nil) rfl rfl⟩
  ·
   refine T_exit ?_
   rw [lx h] at ho1
   replace h := ho1
   exact ⟨n2, h, Ent.sel [] (sd 3 rfl rfl <| sn) (.nil) rfl rfl⟩
 ·
  obtain ⟨n, rfl⟩ : ∃ x, x = j := ⟨_, rfl⟩
  replace h := t1i h
  refine t1T ?_
  refine T_seq (T_reg ?_)
  refine R_q _ rfl (v_move (ov rfl)) ?_
  refine R_q _ rfl (v_assign (ov rfl)) ?_
  refine R_nil ?_
  obtain rfl := rt (v := n) h
  refine T_ret (retq ?_ (.one (.tmp rfl (Dat.view (.b rfl)))))
  rfl

theorem ok_slices_Index_int_int {s : List Int} {v : Int} {r : Int} (h : slices_Index_int_int s v = some r) :
  CSpec Tryd.prog gl0 95 [.sl 3 (List.map R3 s), .int .i64 v] (.int .i64 r) := by
 unfold slices_Index_int_int at h
 replace h := bnd0 h
 refine spec_of (by kernel_rfl) Tryd.func95 rfl rfl ?_
 intro w0 A
 refine T_seq (T_reg ?_)
 refine R_q _ rfl (v_assign (ov rfl)) ?_
 refine R_nil ?_
 refine T_joinG (fun j => (.inr j)) (t0 ⟨[], []⟩) h (fun h => ?_) (fun j h => ?_)
 ·
  refine T_keep (kc 0 rfl <| kc 1 rfl <| kn) rfl ?_
  refine T_seq (T_reg ?_)
  refine R_q _ rfl (v_move (ov rfl)) ?_
  refine R_q _ rfl (v_len (slv_sl (ov rfl) tZ_3) tL26 (len_map _ _)) ?_
  refine R_q _ rfl (v_move (ov rfl)) ?_
  refine R_nil ?_
  refine T_block ?_
  obtain ⟨r1, hl1, ho1⟩ := bndL h
  refine T_loopG _ (t1 fun i => ⟨[(0, .sl 3 (List.map R3 s)), (1, .int .i64 v), (7, .int .i64 (s.length : Int)), (8, .int .i64 i)], []⟩) _ hl1 (Ent.sel [] (sd 0 rfl rfl <| sd 1 rfl rfl <| sd 7 rfl rfl <| sd 8 rfl rfl <| sn) (.nil) rfl rfl) (fun n1 s1 h => ?_)
  obtain ⟨i, rfl⟩ : ∃ x, x = s1 := ⟨_, rfl⟩
  replace h := t1i h
  refine t1T ?_
  unfold slices_Index_int_int_L1 at h
  refine T_seq (T_reg ?_)
  refine R_q _ rfl (v_lss (ov rfl) (ov rfl)) ?_
  refine R_nil ?_
  refine T_seq ?_
  refine T_if h rfl (fun b9 h => ?_) (fun b9 h => ?_)
  ·
   refine T_skip ?_
   refine T_seq ?_
   refine T_block ?_
   refine T_keep (kc 0 rfl <| kc 1 rfl <| kc 7 rfl <| kc 8 rfl <| kn) rfl ?_
   refine T_seq (T_reg ?_)
   refine R_q _ rfl (v_move (ov rfl)) ?_
   refine R_q _ rfl (v_assign (ov rfl)) ?_
   refine R_nil ?_
   refine T_keep (kc 0 rfl <| kc 1 rfl <| kc 5 rfl <| kc 7 rfl <| kc 8 rfl <| kn) rfl ?_
   refine T_seq (T_reg ?_)
   refine R_q _ rfl (v_move (ov rfl)) ?_
   refine R_q _ rfl (v_move (ov rfl)) ?_
   refine R_q _ rfl (v_move (ov rfl)) ?_
   obtain ⟨x, h_x, h⟩ := bnd h
   refine R_q _ rfl (v_ixSG (ov rfl) (ov rfl) tL26 h_x) ?_
   refine R_q _ rfl (v_loadS_r (ov rfl) tS3 rfl) ?_
   refine R_q _ rfl (v_eql (ov rfl) (ov rfl)) ?_
   refine R_nil ?_
   refine T_keep (kc 0 rfl <| kc 1 rfl <| kc 5 rfl <| kc 7 rfl <| kc 8 rfl <| kc 16 rfl <| kn) rfl ?_
   refine T_if h rfl (fun b16 h => ?_) (fun b16 h => ?_)
   ·
    refine T_keep (kc 5 rfl <| kn) rfl ?_
    refine T_seq (T_reg ?_)
    refine R_q _ rfl (v_move (ov rfl)) ?_
    refine R_q _ rfl (v_assign (ov rfl)) ?_
    refine R_nil ?_
    rw [lx h] at ho1
    replace h := ho1
    obtain rfl := rt (v := i) h
    refine T_ret (retq ?_ (.one (.tmp rfl (Dat.view (.b rfl)))))
    rfl
   ·
    refine T_skip ?_
    refine T_keep (kc 0 rfl <| kc 1 rfl <| kc 7 rfl <| kc 8 rfl <| kn) rfl ?_
    refine T_reg ?_
    refine R_q _ rfl (v_add (ov rfl) (ov rfl) rfl) ?_
    refine R_q _ rfl (v_move (ov rfl)) ?_
    refine R_nil ?_
    exact ⟨(i64 (i + 1)), h, Ent.sel [] (sd 0 rfl rfl <| sd 1 rfl rfl <| sd 7 rfl rfl <| sd 8 rfl rfl <| sn) (.nil) rfl rfl⟩
  ·
   refine T_exit ?_
   rw [lx h] at ho1
   replace h := ho1
   exact ⟨(), h, Ent.sel [] (sn) (.nil) rfl rfl⟩
 ·
  replace h := elr h
  cases j
  replace h := t0i h
  refine t0T ?_
  refine T_seq (T_reg ?_)
  refine R_q _ rfl (v_assign (ov rfl)) ?_
  refine R_nil ?_
  obtain rfl := rt (v := (-1)) h
  refine T_ret (retq ?_ (.one (.tmp rfl (Dat.view (.b rfl)))))
  rfl

theorem ok_slices_Contains_int_int {s : List Int} {v : Int} {r : Bool} (h : slices_Contains_int_int s v = some r) :
  CSpec Tryd.prog gl0 65 [.sl 3 (List.map R3 s), .int .i64 v] (.bool r) := by
 unfold slices_Contains_int_int at h
 replace h := bnd0 h
 refine spec_of (by kernel_rfl) Tryd.func65 rfl rfl ?_
 intro w0 A
 refine T_seq (T_reg ?_)
 refine R_q _ rfl (v_assign (ov rfl)) ?_
 refine R_nil ?_
 refine T_seq (T_reg ?_)
 refine R_q _ rfl (v_move (ov rfl)) ?_
 refine R_q _ rfl (v_move (ov rfl)) ?_
 obtain ⟨y, h_y, h⟩ := bnd h
 refine R_q _ rfl (v_call (ok_slices_Index_int_int h_y) (.cons (ov rfl) (.b rfl) <| .cons (ov rfl) (.b rfl) <| .nil)) ?_
 refine R_q _ rfl (v_geq (ov rfl) (ov rfl)) ?_
 refine R_q _ rfl (v_assign (ov rfl)) ?_
 refine R_nil ?_
 obtain rfl := rt (v := (decide (0 ≤ y))) h
 refine T_ret (retq ?_ (.one (.tmp rfl (Dat.view (.b rfl)))))
 rfl

theorem ok_layout_checkParts {p : api_Param} {r : Int} (h : layout_checkParts p = some r) :
  CSpec Tryd.prog gl0 36 [.agg [.str p.Name, .int .i64 p.Kind, .sl 113 (List.map R113 p.Parts), .int .i64 p.First, .int .i64 p.Every, .int .i64 p.Times, .int .i64 p.Step, .sl 9 (List.map R9 p.Names)]] (.int .i64 r) := by
 unfold layout_checkParts at h
 replace h := bnd0 h
 refine spec_of (by kernel_rfl) Tryd.func36 rfl rfl ?_
 intro w0 A
 refine T_seq (T_reg ?_)
 refine R_q _ rfl (v_boxD (cva (ov rfl)) rfl tZ_25 rfl) ?_
 refine R_q _ rfl (v_assign (ov rfl)) ?_
 refine R_nil ?_
 refine T_seq ?_
 refine T_block ?_
 refine T_keep (kc 1 rfl <| kn) rfl ?_
 refine T_seq (T_reg ?_)
 refine R_q _ rfl (v_fieldR (ov rfl) tF25_2) ?_
 refine R_q _ rfl (v_loadS_r (ov rfl) tS22 rfl) ?_
 refine R_q _ rfl (v_len (slv_sl (ov rfl) tZ_113) tL22 (len_map _ _)) ?_
 refine R_q _ rfl (v_eql (ov rfl) (ov rfl)) ?_
 refine R_q _ rfl (v_assign (ov rfl)) ?_
 refine R_nil ?_
 refine T_keep (kc 1 rfl <| kc 8 rfl <| kn) rfl ?_
 refine T_if h rfl (fun b8 h => ?_) (fun b8 h => ?_)
 ·
  refine T_keep (kn) rfl ?_
  refine T_seq (T_reg ?_)
  refine R_q _ rfl (v_assign (ov rfl)) ?_
  refine R_nil ?_
  obtain rfl := rt (v := 13) h
  refine T_ret (retq ?_ (.one (.tmp rfl (Dat.view (.b rfl)))))
  rfl
 ·
  refine T_keep (kc 1 rfl <| kn) rfl ?_
  refine T_seq (T_reg ?_)
  refine R_q _ rfl (v_fieldR (ov rfl) tF25_2) ?_
  refine R_q _ rfl (v_loadS_r (ov rfl) tS22 rfl) ?_
  refine R_q _ rfl (v_len (slv_sl (ov rfl) tZ_113) tL22 (len_map _ _)) ?_
  refine R_q _ rfl (v_gtr (ov rfl) (ov rfl)) ?_
  refine R_q _ rfl (v_assign (ov rfl)) ?_
  refine R_nil ?_
  refine T_keep (kc 1 rfl <| kc 13 rfl <| kn) rfl ?_
  refine T_if h rfl (fun b13 h => ?_) (fun b13 h => ?_)
  ·
   refine T_keep (kn) rfl ?_
   refine T_seq (T_reg ?_)
   refine R_q _ rfl (v_assign (ov rfl)) ?_
   refine R_nil ?_
   obtain rfl := rt (v := 3) h
   refine T_ret (retq ?_ (.one (.tmp rfl (Dat.view (.b rfl)))))
   rfl
  ·
   refine T_skip ?_
   refine T_joinG (fun j => (.inr j)) (t0 ⟨[(1, .rp [.str p.Name, .int .i64 p.Kind, .sl 113 (List.map R113 p.Parts), .int .i64 p.First, .int .i64 p.Every, .int .i64 p.Times, .int .i64 p.Step, .sl 9 (List.map R9 p.Names)] 0)], []⟩) h (fun h => ?_) (fun j h => ?_)
   ·
    refine T_keep (kc 1 rfl <| kn) rfl ?_
    refine T_seq (T_reg ?_)
    refine R_q _ rfl (v_fieldR (ov rfl) tF25_2) ?_
    refine R_q _ rfl (v_loadS_r (ov rfl) tS22 rfl) ?_
    refine R_q _ rfl (v_len (slv_sl (ov rfl) tZ_113) tL22 (len_map _ _)) ?_
    refine R_q _ rfl (v_move (ov rfl)) ?_
    refine R_nil ?_
    refine T_block ?_
    obtain ⟨r1, hl1, ho1⟩ := bndL h
    refine T_loopG _ (t1 fun i => ⟨[(1, .rp [.str p.Name, .int .i64 p.Kind, .sl 113 (List.map R113 p.Parts), .int .i64 p.First, .int .i64 p.Every, .int .i64 p.Times, .int .i64 p.Step, .sl 9 (List.map R9 p.Names)] 0), (19, .sl 113 (List.map R113 p.Parts)), (20, .int .i64 (p.Parts.length : Int)), (21, .int .i64 i)], []⟩) _ hl1 (Ent.sel [] (sd 1 rfl rfl <| sd 19 rfl rfl <| sd 20 rfl rfl <| sd 21 rfl rfl <| sn) (.nil) rfl rfl) (fun n1 s1 h => ?_)
    obtain ⟨i, rfl⟩ : ∃ x, x = s1 := ⟨_, rfl⟩
    replace h := t1i h
    refine t1T ?_
    unfold layout_checkParts_L1 at h
    refine T_seq (T_reg ?_)
    refine R_q _ rfl (v_lss (ov rfl) (ov rfl)) ?_
    refine R_nil ?_
    refine T_seq ?_
    refine T_if h rfl (fun b22 h => ?_) (fun b22 h => ?_)
    ·
     refine T_skip ?_
     refine T_seq ?_
     refine T_block ?_
     refine T_keep (kc 1 rfl <| kc 19 rfl <| kc 20 rfl <| kc 21 rfl <| kn) rfl ?_
     refine T_seq (T_reg ?_)
     obtain ⟨x, h_x, h⟩ := bnd h
     refine R_q _ rfl (v_ixSG (ov rfl) (ov rfl) tL22 h_x) ?_
     refine R_q _ rfl (v_loadA_r (ov rfl) tA113 rfl rfl) ?_
     refine R_w _ _ rfl (w_alloc (row := [_, _, _, _]) 0 rfl tZ113 rfl tZ_113) ?_
     refine R_w _ _ rfl (w_store (ov rfl) (ov rfl) (cells_agg tA113 rfl) rfl rfl rfl (Nat.le_of_ble_eq_true rfl) (cell1_all rfl) rfl) ?_
     refine R_nil ?_
     refine T_keep (kc 1 rfl <| kc 4 rfl <| kc 19 rfl <| kc 20 rfl <| kc 21 rfl <| kn) rfl ?_
     refine T_seq (T_reg ?_)
     refine R_q _ rfl (v_fieldP (ov rfl) rfl rfl tF113_0) ?_
     refine R_q _ rfl (v_loadS (ov rfl) rfl rfl rfl tS3 rfl) ?_
     obtain ⟨y, h_y, h⟩ := bnd h
     refine R_q _ rfl (v_call (ok_layout_within h_y) (.cons (ov rfl) (.b rfl) <| .cons (ov rfl) (.b rfl) <| .cons (ov rfl) (.b rfl) <| .nil)) ?_
     refine R_q _ rfl (v_not (ov rfl)) ?_
     refine R_q _ rfl (v_move (ov rfl)) ?_
     refine R_q _ rfl (.guarded ((!y) == false) rfl rfl rfl rfl fun h => v_fieldP (ov rfl) rfl rfl tF113_1) ?_
     refine R_q _ rfl (.guarded ((!y) == false) rfl rfl rfl rfl fun h => v_loadS (ow rfl h) rfl rfl rfl tS3 rfl) ?_
     obtain ⟨y2, h_y2, h⟩ := bnd h
     refine R_q _ rfl (.guarded ((!y) == false) rfl rfl rfl rfl fun h => v_call (ok_layout_within (gdT h_y2 h)) (.cons (ow rfl h) (.b rfl) <| .cons (ov rfl) (.b rfl) <| .cons (ov rfl) (.b rfl) <| .nil)) ?_
     refine R_q _ rfl (.guarded ((!y) == false) rfl rfl rfl rfl fun h => v_not (ow rfl h)) ?_
     refine R_q _ rfl (v_or (ov rfl) (fun hp => ow rfl (gF hp))) ?_
     refine R_q _ rfl (v_move (ov rfl)) ?_
     refine R_q _ rfl (.guarded (((!y) || (!y2)) == false) rfl rfl rfl rfl fun h => v_fieldP (ov rfl) rfl rfl tF113_2) ?_
     refine R_q _ rfl (.guarded (((!y) || (!y2)) == false) rfl rfl rfl rfl fun h => v_loadS (ow rfl h) rfl rfl rfl tS3 rfl) ?_
     obtain ⟨y3, h_y3, h⟩ := bnd h
     refine R_q _ rfl (.guarded (((!y) || (!y2)) == false) rfl rfl rfl rfl fun h => v_call (ok_layout_within (gdT h_y3 h)) (.cons (ow rfl h) (.b rfl) <| .cons (ov rfl) (.b rfl) <| .cons (ov rfl) (.b rfl) <| .nil)) ?_
     refine R_q _ rfl (.guarded (((!y) || (!y2)) == false) rfl rfl rfl rfl fun h => v_not (ow rfl h)) ?_
     refine R_q _ rfl (v_or (ov rfl) (fun hp => ow rfl (gF hp))) ?_
     refine R_q _ rfl (v_move (ov rfl)) ?_
     refine R_q _ rfl (.guarded ((((!y) || (!y2)) || (!y3)) == false) rfl rfl rfl rfl fun h => v_fieldP (ov rfl) rfl rfl tF113_3) ?_
     refine R_q _ rfl (.guarded ((((!y) || (!y2)) || (!y3)) == false) rfl rfl rfl rfl fun h => v_loadS (ow rfl h) rfl rfl rfl tS3 rfl) ?_
     refine R_q _ rfl (.guarded ((((!y) || (!y2)) || (!y3)) == false) rfl rfl rfl rfl fun h => v_fieldP (ov rfl) rfl rfl tF113_2) ?_
     refine R_q _ rfl (.guarded ((((!y) || (!y2)) || (!y3)) == false) rfl rfl rfl rfl fun h => v_loadS (ow rfl h) rfl rfl rfl tS3 rfl) ?_
     refine R_q _ rfl (.guarded ((((!y) || (!y2)) || (!y3)) == false) rfl rfl rfl rfl fun h => v_sub (ov rfl) (ow rfl h) rfl) ?_
     obtain ⟨y4, h_y4, h⟩ := bnd h
     refine R_q _ rfl (.guarded ((((!y) || (!y2)) || (!y3)) == false) rfl rfl rfl rfl fun h => v_call (ok_layout_within (gdT h_y4 h)) (.cons (ow rfl h) (.b rfl) <| .cons (ov rfl) (.b rfl) <| .cons (ow rfl h) (.b rfl) <| .nil)) ?_
     refine R_q _ rfl (.guarded ((((!y) || (!y2)) || (!y3)) == false) rfl rfl rfl rfl fun h => v_not (ow rfl h)) ?_
     refine R_q _ rfl (v_or (ov rfl) (fun hp => ow rfl (gF hp))) ?_
     refine R_nil ?_
     refine T_keep (kc 1 rfl <| kc 19 rfl <| kc 20 rfl <| kc 21 rfl <| kc 49 rfl <| kn) rfl ?_
     refine T_if h rfl (fun b49 h => ?_) (fun b49 h => ?_)
     ·
      refine T_keep (kn) rfl ?_
      refine T_seq (T_reg ?_)
      refine R_q _ rfl (v_assign (ov rfl)) ?_
      refine R_nil ?_
      rw [lx h] at ho1
      replace h := ho1
      obtain rfl := rt (v := 9) h
      refine T_ret (retq ?_ (.one (.tmp rfl (Dat.view (.b rfl)))))
      rfl
     ·
      refine T_skip ?_
      refine T_keep (kc 1 rfl <| kc 19 rfl <| kc 20 rfl <| kc 21 rfl <| kn) rfl ?_
      refine T_reg ?_
      refine R_q _ rfl (v_add (ov rfl) (ov rfl) rfl) ?_
      refine R_q _ rfl (v_move (ov rfl)) ?_
      refine R_nil ?_
      exact ⟨(i64 (i + 1)), h, Ent.sel [] (sd 1 rfl rfl <| sd 19 rfl rfl <| sd 20 rfl rfl <| sd 21 rfl rfl <| sn) (.nil) rfl rfl⟩
    ·
     refine T_exit ?_
     rw [lx h] at ho1
     replace h := ho1
     exact ⟨(), h, Ent.sel [] (sd 1 rfl rfl <| sn) (.nil) rfl rfl⟩
   ·
    replace h := elr h
    cases j
    replace h := t0i h
    refine t0T ?_
    refine T_seq ?_
    refine T_seq (T_reg ?_)
    refine R_q _ rfl (v_loadA_r (ov rfl) tA25 rfl rfl) ?_
    obtain ⟨y5, h_y5, h⟩ := bnd h
    refine R_q _ rfl (v_call (ok_layout_bitsOf h_y5) (.cons (ov rfl) (.aggB rfl) <| .nil)) ?_
    refine R_q _ rfl (v_gtr (ov rfl) (ov rfl)) ?_
    refine R_nil ?_
    refine T_keep (kc 1 rfl <| kc 53 rfl <| kn) rfl ?_
    refine T_if h rfl (fun b53 h => ?_) (fun b53 h => ?_)
    ·
     refine T_keep (kn) rfl ?_
     refine T_seq (T_reg ?_)
     refine R_q _ rfl (v_assign (ov rfl)) ?_
     refine R_nil ?_
     obtain rfl := rt (v := 3) h
     refine T_ret (retq ?_ (.one (.tmp rfl (Dat.view (.b rfl)))))
     rfl
    ·
     refine T_skip ?_
     refine T_keep (kc 1 rfl <| kn) rfl ?_
     refine T_seq (T_reg ?_)
     refine R_q (.sl 3 (List.map R3 ([1, 2, 4, 8, 16] : List Int))) rfl (v_lit tL26 (.cons (cvs (ov rfl) (cell1_b rfl)) rfl (.cons (.b rfl) .nil) <| .cons (cvs (ov rfl) (cell1_b rfl)) rfl (.cons (.b rfl) .nil) <| .cons (cvs (ov rfl) (cell1_b rfl)) rfl (.cons (.b rfl) .nil) <| .cons (cvs (ov rfl) (cell1_b rfl)) rfl (.cons (.b rfl) .nil) <| .cons (cvs (ov rfl) (cell1_b rfl)) rfl (.cons (.b rfl) .nil) <| .nil) rfl rfl) ?_
     refine R_q _ rfl (v_fieldR (ov rfl) tF25_4) ?_
     refine R_q _ rfl (v_loadS_r (ov rfl) tS3 rfl) ?_
     obtain ⟨y6, h_y6, h⟩ := bnd h
     refine R_q _ rfl (v_call (ok_slices_Contains_int_int h_y6) (.cons (ov rfl) (.b rfl) <| .cons (ov rfl) (.b rfl) <| .nil)) ?_
     refine R_q _ rfl (v_assign (ov rfl)) ?_
     refine R_nil ?_
     refine T_seq ?_
     refine T_keep (kc 1 rfl <| kc 5 rfl <| kn) rfl ?_
     refine T_seq (T_reg ?_)
     refine R_q _ rfl (v_move (ov rfl)) ?_
     refine R_q _ rfl (v_not (ov rfl)) ?_
     refine R_q _ rfl (v_move (ov rfl)) ?_
     refine R_q _ rfl (.guarded ((!y6) == false) rfl rfl rfl rfl fun h => v_fieldR (ov rfl) tF25_3) ?_
     refine R_q _ rfl (.guarded ((!y6) == false) rfl rfl rfl rfl fun h => v_loadS_r (ow rfl h) tS3 rfl) ?_
     refine R_q _ rfl (.guarded ((!y6) == false) rfl rfl rfl rfl fun h => v_fieldR (ov rfl) tF25_4) ?_
     refine R_q _ rfl (.guarded ((!y6) == false) rfl rfl rfl rfl fun h => v_loadS_r (ow rfl h) tS3 rfl) ?_
     refine R_q _ rfl (.guarded ((!y6) == false) rfl rfl rfl rfl fun h => v_sub (ow rfl h) (ov rfl) rfl) ?_
     obtain ⟨y7, h_y7, h⟩ := bnd h
     refine R_q _ rfl (.guarded ((!y6) == false) rfl rfl rfl rfl fun h => v_call (ok_layout_within (gdT h_y7 h)) (.cons (ow rfl h) (.b rfl) <| .cons (ov rfl) (.b rfl) <| .cons (ow rfl h) (.b rfl) <| .nil)) ?_
     refine R_q _ rfl (.guarded ((!y6) == false) rfl rfl rfl rfl fun h => v_not (ow rfl h)) ?_
     refine R_q _ rfl (v_or (ov rfl) (fun hp => ow rfl (gF hp))) ?_
     refine R_q _ rfl (v_move (ov rfl)) ?_
     refine R_q _ rfl (.guarded (((!y6) || (!y7)) == false) rfl rfl rfl rfl fun h => v_fieldR (ov rfl) tF25_5) ?_
     refine R_q _ rfl (.guarded (((!y6) || (!y7)) == false) rfl rfl rfl rfl fun h => v_loadS_r (ow rfl h) tS3 rfl) ?_
     obtain ⟨y8, h_y8, h⟩ := bnd h
     refine R_q _ rfl (.guarded (((!y6) || (!y7)) == false) rfl rfl rfl rfl fun h => v_call (ok_layout_within (gdT h_y8 h)) (.cons (ow rfl h) (.b rfl) <| .cons (ov rfl) (.b rfl) <| .cons (ov rfl) (.b rfl) <| .nil)) ?_
     refine R_q _ rfl (.guarded (((!y6) || (!y7)) == false) rfl rfl rfl rfl fun h => v_not (ow rfl h)) ?_
     refine R_q _ rfl (v_or (ov rfl) (fun hp => ow rfl (gF hp))) ?_
     refine R_q _ rfl (v_move (ov rfl)) ?_
     refine R_q _ rfl (.guarded ((((!y6) || (!y7)) || (!y8)) == false) rfl rfl rfl rfl fun h => v_fieldR (ov rfl) tF25_6) ?_
     refine R_q _ rfl (.guarded ((((!y6) || (!y7)) || (!y8)) == false) rfl rfl rfl rfl fun h => v_loadS_r (ow rfl h) tS3 rfl) ?_
     refine R_q _ rfl (.guarded ((((!y6) || (!y7)) || (!y8)) == false) rfl rfl rfl rfl fun h => v_lss (ow rfl h) (ov rfl)) ?_
     refine R_q _ rfl (v_or (ov rfl) (fun hp => ow rfl (gF hp))) ?_
     refine R_q _ rfl (v_move (ov rfl)) ?_
     refine R_q _ rfl (.guarded (((((!y6) || (!y7)) || (!y8)) || (decide (p.Step < 0))) == false) rfl rfl rfl rfl fun h => v_fieldR (ov rfl) tF25_6) ?_
     refine R_q _ rfl (.guarded (((((!y6) || (!y7)) || (!y8)) || (decide (p.Step < 0))) == false) rfl rfl rfl rfl fun h => v_loadS_r (ow rfl h) tS3 rfl) ?_
     refine R_q _ rfl (.guarded (((((!y6) || (!y7)) || (!y8)) || (decide (p.Step < 0))) == false) rfl rfl rfl rfl fun h => v_eql (ow rfl h) (ov rfl)) ?_
     refine R_q _ rfl (.guarded (((((!y6) || (!y7)) || (!y8)) || (decide (p.Step < 0))) == false) rfl rfl rfl rfl fun h => v_fieldR (ov rfl) tF25_5) ?_
     refine R_q _ rfl (.guarded (((((!y6) || (!y7)) || (!y8)) || (decide (p.Step < 0))) == false) rfl rfl rfl rfl fun h => v_loadS_r (ow rfl h) tS3 rfl) ?_
     refine R_q _ rfl (.guarded (((((!y6) || (!y7)) || (!y8)) || (decide (p.Step < 0))) == false) rfl rfl rfl rfl fun h => v_eql (ow rfl h) (ov rfl)) ?_
     refine R_q _ rfl (.guarded (((((!y6) || (!y7)) || (!y8)) || (decide (p.Step < 0))) == false) rfl rfl rfl rfl fun h => tBool_eq .neq (by simp) (ow rfl h) (ow rfl h) tB4) ?_
     refine R_q _ rfl (v_or (ov rfl) (fun hp => ow rfl (gF hp))) ?_
     refine R_nil ?_
     refine T_keep (kc 1 rfl <| kc 88 rfl <| kn) rfl ?_
     refine T_if h rfl (fun b88 h => ?_) (fun b88 h => ?_)
     ·
      refine T_keep (kn) rfl ?_
      refine T_seq (T_reg ?_)
      refine R_q _ rfl (v_assign (ov rfl)) ?_
      refine R_nil ?_
      obtain rfl := rt (v := 9) h
      refine T_ret (retq ?_ (.one (.tmp rfl (Dat.view (.b rfl)))))
      rfl
     ·
      refine T_skip ?_
      refine T_joinG (fun j => (.inr j)) (t0 ⟨[], []⟩) h (fun h => ?_) (fun j h => ?_)
      ·
       refine T_keep (kc 1 rfl <| kn) rfl ?_
       refine T_seq (T_reg ?_)
       refine R_q _ rfl (v_fieldR (ov rfl) tF25_2) ?_
       refine R_q _ rfl (v_loadS_r (ov rfl) tS22 rfl) ?_
       refine R_q _ rfl (v_len (slv_sl (ov rfl) tZ_113) tL22 (len_map _ _)) ?_
       refine R_q _ rfl (v_move (ov rfl)) ?_
       refine R_nil ?_
       refine T_block ?_
       obtain ⟨r2, hl2, ho2⟩ := bndL h
       refine T_loopG _ (t1 fun i2 => ⟨[(1, .rp [.str p.Name, .int .i64 p.Kind, .sl 113 (List.map R113 p.Parts), .int .i64 p.First, .int .i64 p.Every, .int .i64 p.Times, .int .i64 p.Step, .sl 9 (List.map R9 p.Names)] 0), (90, .sl 113 (List.map R113 p.Parts)), (91, .int .i64 (p.Parts.length : Int)), (92, .int .i64 i2)], []⟩) _ hl2 (Ent.sel [] (sd 1 rfl rfl <| sd 90 rfl rfl <| sd 91 rfl rfl <| sd 92 rfl rfl <| sn) (.nil) rfl rfl) (fun n2 s2 h => ?_)
       obtain ⟨i2, rfl⟩ : ∃ x, x = s2 := ⟨_, rfl⟩
       replace h := t1i h
       refine t1T ?_
       unfold layout_checkParts_L2 at h
       refine T_seq (T_reg ?_)
       refine R_q _ rfl (v_lss (ov rfl) (ov rfl)) ?_
       refine R_nil ?_
       refine T_seq ?_
       refine T_if h rfl (fun b93 h => ?_) (fun b93 h => ?_)
       ·
        refine T_skip ?_
        refine T_seq ?_
        refine T_block ?_
        refine T_keep (kc 1 rfl <| kc 90 rfl <| kc 91 rfl <| kc 92 rfl <| kn) rfl ?_
        refine T_seq (T_reg ?_)
        obtain ⟨x2, h_x2, h⟩ := bnd h
        refine R_q _ rfl (v_ixSG (ov rfl) (ov rfl) tL22 h_x2) ?_
        refine R_q _ rfl (v_loadA_r (ov rfl) tA113 rfl rfl) ?_
        refine R_w _ _ rfl (w_alloc (row := [_, _, _, _]) 0 rfl tZ113 rfl tZ_113) ?_
        refine R_w _ _ rfl (w_store (ov rfl) (ov rfl) (cells_agg tA113 rfl) rfl rfl rfl (Nat.le_of_ble_eq_true rfl) (cell1_all rfl) rfl) ?_
        refine R_nil ?_
        refine T_keep (kc 1 rfl <| kc 7 rfl <| kc 90 rfl <| kc 91 rfl <| kc 92 rfl <| kn) rfl ?_
        refine T_seq (T_reg ?_)
        refine R_q _ rfl (v_fieldR (ov rfl) tF25_6) ?_
        refine R_q _ rfl (v_loadS_r (ov rfl) tS3 rfl) ?_
        refine R_q _ rfl (v_gtr (ov rfl) (ov rfl)) ?_
        refine R_q _ rfl (v_move (ov rfl)) ?_
        refine R_q _ rfl (.guarded ((decide (60 < p.Step)) == false) rfl rfl rfl rfl fun h => v_fieldP (ov rfl) rfl rfl tF113_1) ?_
        refine R_q _ rfl (.guarded ((decide (60 < p.Step)) == false) rfl rfl rfl rfl fun h => v_loadS (ow rfl h) rfl rfl rfl tS3 rfl) ?_
        refine R_q _ rfl (.guarded ((decide (60 < p.Step)) == false) rfl rfl rfl rfl fun h => v_fieldR (ov rfl) tF25_5) ?_
        refine R_q _ rfl (.guarded ((decide (60 < p.Step)) == false) rfl rfl rfl rfl fun h => v_loadS_r (ow rfl h) tS3 rfl) ?_
        refine R_q _ rfl (.guarded ((decide (60 < p.Step)) == false) rfl rfl rfl rfl fun h => v_sub (ow rfl h) (ov rfl) rfl) ?_
        refine R_q _ rfl (.guarded ((decide (60 < p.Step)) == false) rfl rfl rfl rfl fun h => v_fieldR (ov rfl) tF25_6) ?_
        refine R_q _ rfl (.guarded ((decide (60 < p.Step)) == false) rfl rfl rfl rfl fun h => v_loadS_r (ow rfl h) tS3 rfl) ?_
        refine R_q _ rfl (.guarded ((decide (60 < p.Step)) == false) rfl rfl rfl rfl fun h => v_mul (ow rfl h) (ow rfl h) rfl) ?_
        refine R_q _ rfl (.guarded ((decide (60 < p.Step)) == false) rfl rfl rfl rfl fun h => v_add (ow rfl h) (ow rfl h) rfl) ?_
        refine R_q _ rfl (.guarded ((decide (60 < p.Step)) == false) rfl rfl rfl rfl fun h => v_gtr (ow rfl h) (ov rfl)) ?_
        refine R_q _ rfl (v_or (ov rfl) (fun hp => ow rfl (gF hp))) ?_
        refine R_nil ?_
        refine T_keep (kc 1 rfl <| kc 90 rfl <| kc 91 rfl <| kc 92 rfl <| kc 110 rfl <| kn) rfl ?_
        refine T_if h rfl (fun b110 h => ?_) (fun b110 h => ?_)
        ·
         refine T_keep (kn) rfl ?_
         refine T_seq (T_reg ?_)
         refine R_q _ rfl (v_assign (ov rfl)) ?_
         refine R_nil ?_
         rw [lx h] at ho2
         replace h := ho2
         obtain rfl := rt (v := 9) h
         refine T_ret (retq ?_ (.one (.tmp rfl (Dat.view (.b rfl)))))
         rfl
        ·
         refine T_skip ?_
         refine T_keep (kc 1 rfl <| kc 90 rfl <| kc 91 rfl <| kc 92 rfl <| kn) rfl ?_
         refine T_reg ?_
         refine R_q _ rfl (v_add (ov rfl) (ov rfl) rfl) ?_
         refine R_q _ rfl (v_move (ov rfl)) ?_
         refine R_nil ?_
         exact ⟨(i64 (i2 + 1)), h, Ent.sel [] (sd 1 rfl rfl <| sd 90 rfl rfl <| sd 91 rfl rfl <| sd 92 rfl rfl <| sn) (.nil) rfl rfl⟩
       ·
        refine T_exit ?_
        rw [lx h] at ho2
        replace h := ho2
        exact ⟨(), h, Ent.sel [] (sn) (.nil) rfl rfl⟩
      ·
       replace h := elr h
       cases j
       replace h := t0i h
       refine t0T ?_
       refine T_seq (T_reg ?_)
       refine R_q _ rfl (v_assign (ov rfl)) ?_
       refine R_nil ?_
       obtain rfl := rt (v := 0) h
       refine T_ret (retq ?_ (.one (.tmp rfl (Dat.view (.b rfl)))))
       rfl

theorem ok_slices_Index_string_string {s : List Str} {v : Str} {r : Int} (h : slices_Index_string_string s v = some r) :
  CSpec Tryd.prog gl0 96 [.sl 9 (List.map R9 s), .str v] (.int .i64 r) := by
 unfold slices_Index_string_string at h
 replace h := bnd0 h
 refine spec_of (by kernel_rfl) Tryd.func96 rfl rfl ?_
 intro w0 A
 refine T_seq (T_reg ?_)
 refine R_q _ rfl (v_assign (ov rfl)) ?_
 refine R_nil ?_
 refine T_joinG (fun j => (.inr j)) (t0 ⟨[], []⟩) h (fun h => ?_) (fun j h => ?_)
 ·
  refine T_keep (kc 0 rfl <| kc 1 rfl <| kn) rfl ?_
  refine T_seq (T_reg ?_)
  refine R_q _ rfl (v_move (ov rfl)) ?_
  refine R_q _ rfl (v_len (slv_sl (ov rfl) tZ_9) tL23 (len_map _ _)) ?_
  refine R_q _ rfl (v_move (ov rfl)) ?_
  refine R_nil ?_
  refine T_block ?_
  obtain ⟨r1, hl1, ho1⟩ := bndL h
  refine T_loopG _ (t1 fun i => ⟨[(0, .sl 9 (List.map R9 s)), (1, .str v), (7, .int .i64 (s.length : Int)), (8, .int .i64 i)], []⟩) _ hl1 (Ent.sel [] (sd 0 rfl rfl <| sd 1 rfl rfl <| sd 7 rfl rfl <| sd 8 rfl rfl <| sn) (.nil) rfl rfl) (fun n1 s1 h => ?_)
  obtain ⟨i, rfl⟩ : ∃ x, x = s1 := ⟨_, rfl⟩
  replace h := t1i h
  refine t1T ?_
  unfold slices_Index_string_string_L1 at h
  refine T_seq (T_reg ?_)
  refine R_q _ rfl (v_lss (ov rfl) (ov rfl)) ?_
  refine R_nil ?_
  refine T_seq ?_
  refine T_if h rfl (fun b9 h => ?_) (fun b9 h => ?_)
  ·
   refine T_skip ?_
   refine T_seq ?_
   refine T_block ?_
   refine T_keep (kc 0 rfl <| kc 1 rfl <| kc 7 rfl <| kc 8 rfl <| kn) rfl ?_
   refine T_seq (T_reg ?_)
   refine R_q _ rfl (v_move (ov rfl)) ?_
   refine R_q _ rfl (v_assign (ov rfl)) ?_
   refine R_nil ?_
   refine T_keep (kc 0 rfl <| kc 1 rfl <| kc 5 rfl <| kc 7 rfl <| kc 8 rfl <| kn) rfl ?_
   refine T_seq (T_reg ?_)
   refine R_q _ rfl (v_move (ov rfl)) ?_
   refine R_q _ rfl (v_move (ov rfl)) ?_
   refine R_q _ rfl (v_move (ov rfl)) ?_
   obtain ⟨x, h_x, h⟩ := bnd h
   refine R_q _ rfl (v_ixSG (ov rfl) (ov rfl) tL23 h_x) ?_
   refine R_q _ rfl (v_loadS_r (ov rfl) tS9 rfl) ?_
   refine R_q _ rfl (v_eqlStr (ov rfl) (ov rfl)) ?_
   refine R_nil ?_
   refine T_keep (kc 0 rfl <| kc 1 rfl <| kc 5 rfl <| kc 7 rfl <| kc 8 rfl <| kc 16 rfl <| kn) rfl ?_
   refine T_if h rfl (fun b16 h => ?_) (fun b16 h => ?_)
   ·
    refine T_keep (kc 5 rfl <| kn) rfl ?_
    refine T_seq (T_reg ?_)
    refine R_q _ rfl (v_move (ov rfl)) ?_
    refine R_q _ rfl (v_assign (ov rfl)) ?_
    refine R_nil ?_
    rw [lx h] at ho1
    replace h := ho1
    obtain rfl := rt (v := i) h
    refine T_ret (retq ?_ (.one (.tmp rfl (Dat.view (.b rfl)))))
    rfl
   ·
    refine T_skip ?_
    refine T_keep (kc 0 rfl <| kc 1 rfl <| kc 7 rfl <| kc 8 rfl <| kn) rfl ?_
    refine T_reg ?_
    refine R_q _ rfl (v_add (ov rfl) (ov rfl) rfl) ?_
    refine R_q _ rfl (v_move (ov rfl)) ?_
    refine R_nil ?_
    exact ⟨(i64 (i + 1)), h, Ent.sel [] (sd 0 rfl rfl <| sd 1 rfl rfl <| sd 7 rfl rfl <| sd 8 rfl rfl <| sn) (.nil) rfl rfl⟩
  ·
   refine T_exit ?_
   rw [lx h] at ho1
   replace h := ho1
   exact ⟨(), h, Ent.sel [] (sn) (.nil) rfl rfl⟩
 ·
  replace h := elr h
  cases j
  replace h := t0i h
  refine t0T ?_
  refine T_seq (T_reg ?_)
  refine R_q _ rfl (v_assign (ov rfl)) ?_
  refine R_nil ?_
  obtain rfl := rt (v := (-1)) h
  refine T_ret (retq ?_ (.one (.tmp rfl (Dat.view (.b rfl)))))
  rfl

theorem ok_slices_Contains_string_string {s : List Str} {v : Str} {r : Bool} (h : slices_Contains_string_string s v = some r) :
  CSpec Tryd.prog gl0 66 [.sl 9 (List.map R9 s), .str v] (.bool r) := by
 unfold slices_Contains_string_string at h
 replace h := bnd0 h
 refine spec_of (by kernel_rfl) Tryd.func66 rfl rfl ?_
 intro w0 A
 refine T_seq (T_reg ?_)
 refine R_q _ rfl (v_assign (ov rfl)) ?_
 refine R_nil ?_
 refine T_seq (T_reg ?_)
 refine R_q _ rfl (v_move (ov rfl)) ?_
 refine R_q _ rfl (v_move (ov rfl)) ?_
 obtain ⟨y, h_y, h⟩ := bnd h
 refine R_q _ rfl (v_call (ok_slices_Index_string_string h_y) (.cons (ov rfl) (.b rfl) <| .cons (ov rfl) (.b rfl) <| .nil)) ?_
 refine R_q _ rfl (v_geq (ov rfl) (ov rfl)) ?_
 refine R_q _ rfl (v_assign (ov rfl)) ?_
 refine R_nil ?_
 obtain rfl := rt (v := (decide (0 ≤ y))) h
 refine T_ret (retq ?_ (.one (.tmp rfl (Dat.view (.b rfl)))))
 rfl

theorem ok_layout_checkNames {p : api_Param} {r : Int} (h : layout_checkNames p = some r) :
  CSpec Tryd.prog gl0 37 [.agg [.str p.Name, .int .i64 p.Kind, .sl 113 (List.map R113 p.Parts), .int .i64 p.First, .int .i64 p.Every, .int .i64 p.Times, .int .i64 p.Step, .sl 9 (List.map R9 p.Names)]] (.int .i64 r) := by
 unfold layout_checkNames at h
 replace h := bnd0 h
 refine spec_of (by kernel_rfl) Tryd.func37 rfl rfl ?_
 intro w0 A
 refine T_seq (T_reg ?_)
 refine R_q _ rfl (v_boxD (cva (ov rfl)) rfl tZ_25 rfl) ?_
 refine R_q _ rfl (v_assign (ov rfl)) ?_
 refine R_nil ?_
 refine T_keep (kc 1 rfl <| kn) rfl ?_
 refine T_seq (T_reg ?_)
 refine R_q _ rfl (v_loadA_r (ov rfl) tA25 rfl rfl) ?_
 obtain ⟨y, h_y, h⟩ := bnd h
 refine R_q _ rfl (v_call (ok_layout_bitsOf h_y) (.cons (ov rfl) (.aggB rfl) <| .nil)) ?_
 refine R_q _ rfl (v_assign (ov rfl)) ?_
 refine R_nil ?_
 refine T_seq ?_
 refine T_keep (kc 1 rfl <| kc 3 rfl <| kn) rfl ?_
 refine T_seq (T_reg ?_)
 refine R_q _ rfl (v_fieldR (ov rfl) tF25_1) ?_
 refine R_q _ rfl (v_loadS_r (ov rfl) tS3 rfl) ?_
 refine R_q _ rfl (v_eql (ov rfl) (ov rfl)) ?_
 refine R_q _ rfl (v_move (ov rfl)) ?_
 refine R_q _ rfl (.guarded ((decide (p.Kind = 4)) == true) rfl rfl rfl rfl fun h => v_move (ov rfl)) ?_
 obtain ⟨q, h_q, h⟩ := bnd h
 refine R_q _ rfl (.guarded ((decide (p.Kind = 4)) == true) rfl rfl rfl rfl fun h => v_remG (ow rfl h) (ov rfl) (gdT h_q h)) ?_
 refine R_q _ rfl (.guarded ((decide (p.Kind = 4)) == true) rfl rfl rfl rfl fun h => v_neq (ow rfl h) (ov rfl)) ?_
 refine R_q _ rfl (v_and (ov rfl) (fun hp => ow rfl (gT hp))) ?_
 refine R_q _ rfl (v_move (ov rfl)) ?_
 refine R_q _ rfl (.guarded (((decide (p.Kind = 4)) && (!decide (q = 0))) == false) rfl rfl rfl rfl fun h => v_fieldR (ov rfl) tF25_1) ?_
 refine R_q _ rfl (.guarded (((decide (p.Kind = 4)) && (!decide (q = 0))) == false) rfl rfl rfl rfl fun h => v_loadS_r (ow rfl h) tS3 rfl) ?_
 refine R_q _ rfl (.guarded (((decide (p.Kind = 4)) && (!decide (q = 0))) == false) rfl rfl rfl rfl fun h => v_eql (ow rfl h) (ov rfl)) ?_
 refine R_q _ rfl (.guarded (((decide (p.Kind = 4)) && (!decide (q = 0))) == false) rfl rfl rfl rfl fun h => v_move (ow rfl h)) ?_
 refine R_q _ rfl (.guarded2 ((((decide (p.Kind = 4)) && (!decide (q = 0))) == false) && ((decide (p.Kind = 5)) == true)) rfl rfl rfl rfl fun h => v_move (ov rfl)) ?_
 refine R_q _ rfl (.guarded2 ((((decide (p.Kind = 4)) && (!decide (q = 0))) == false) && ((decide (p.Kind = 5)) == true)) rfl rfl rfl rfl fun h => v_neq (ow rfl h) (ov rfl)) ?_
 refine R_q _ rfl (.guarded (((decide (p.Kind = 4)) && (!decide (q = 0))) == false) rfl rfl rfl rfl fun h => v_and (ow rfl h) (fun hp => ow rfl (gA h (gT hp)))) ?_
 refine R_q _ rfl (v_or (ov rfl) (fun hp => ow rfl (gF hp))) ?_
 refine R_q _ rfl (v_move (ov rfl)) ?_
 refine R_q _ rfl (.guarded ((((decide (p.Kind = 4)) && (!decide (q = 0))) || ((decide (p.Kind = 5)) && (!decide (y = 1)))) == false) rfl rfl rfl rfl fun h => v_fieldR (ov rfl) tF25_1) ?_
 refine R_q _ rfl (.guarded ((((decide (p.Kind = 4)) && (!decide (q = 0))) || ((decide (p.Kind = 5)) && (!decide (y = 1)))) == false) rfl rfl rfl rfl fun h => v_loadS_r (ow rfl h) tS3 rfl) ?_
 refine R_q _ rfl (.guarded ((((decide (p.Kind = 4)) && (!decide (q = 0))) || ((decide (p.Kind = 5)) && (!decide (y = 1)))) == false) rfl rfl rfl rfl fun h => v_eql (ow rfl h) (ov rfl)) ?_
 refine R_q _ rfl (.guarded ((((decide (p.Kind = 4)) && (!decide (q = 0))) || ((decide (p.Kind = 5)) && (!decide (y = 1)))) == false) rfl rfl rfl rfl fun h => v_move (ow rfl h)) ?_
 refine R_q _ rfl (.guarded2 (((((decide (p.Kind = 4)) && (!decide (q = 0))) || ((decide (p.Kind = 5)) && (!decide (y = 1)))) == false) && ((decide (p.Kind = 2)) == false)) rfl rfl rfl rfl fun h => v_fieldR (ov rfl) tF25_1) ?_
 refine R_q _ rfl (.guarded2 (((((decide (p.Kind = 4)) && (!decide (q = 0))) || ((decide (p.Kind = 5)) && (!decide (y = 1)))) == false) && ((decide (p.Kind = 2)) == false)) rfl rfl rfl rfl fun h => v_loadS_r (ow rfl h) tS3 rfl) ?_
 refine R_q _ rfl (.guarded2 (((((decide (p.Kind = 4)) && (!decide (q = 0))) || ((decide (p.Kind = 5)) && (!decide (y = 1)))) == false) && ((decide (p.Kind = 2)) == false)) rfl rfl rfl rfl fun h => v_eql (ow rfl h) (ov rfl)) ?_
 refine R_q _ rfl (.guarded ((((decide (p.Kind = 4)) && (!decide (q = 0))) || ((decide (p.Kind = 5)) && (!decide (y = 1)))) == false) rfl rfl rfl rfl fun h => v_or (ow rfl h) (fun hp => ow rfl (gA h (gF hp)))) ?_
 refine R_q _ rfl (.guarded ((((decide (p.Kind = 4)) && (!decide (q = 0))) || ((decide (p.Kind = 5)) && (!decide (y = 1)))) == false) rfl rfl rfl rfl fun h => v_move (ow rfl h)) ?_
 refine R_q _ rfl (.guarded2 (((((decide (p.Kind = 4)) && (!decide (q = 0))) || ((decide (p.Kind = 5)) && (!decide (y = 1)))) == false) && (((decide (p.Kind = 2)) || (decide (p.Kind = 3))) == true)) rfl rfl rfl rfl fun h => v_move (ov rfl)) ?_
 refine R_q _ rfl (.guarded2 (((((decide (p.Kind = 4)) && (!decide (q = 0))) || ((decide (p.Kind = 5)) && (!decide (y = 1)))) == false) && (((decide (p.Kind = 2)) || (decide (p.Kind = 3))) == true)) rfl rfl rfl rfl fun h => v_eql (ow rfl h) (ov rfl)) ?_
 refine R_q _ rfl (.guarded ((((decide (p.Kind = 4)) && (!decide (q = 0))) || ((decide (p.Kind = 5)) && (!decide (y = 1)))) == false) rfl rfl rfl rfl fun h => v_and (ow rfl h) (fun hp => ow rfl (gA h (gT hp)))) ?_
 refine R_q _ rfl (v_or (ov rfl) (fun hp => ow rfl (gF hp))) ?_
 refine R_nil ?_
 refine T_keep (kc 1 rfl <| kc 3 rfl <| kc 38 rfl <| kn) rfl ?_
 refine T_if h rfl (fun b38 h => ?_) (fun b38 h => ?_)
 ·
  refine T_keep (kn) rfl ?_
  refine T_seq (T_reg ?_)
  refine R_q _ rfl (v_assign (ov rfl)) ?_
  refine R_nil ?_
  obtain rfl := rt (v := 2) h
  refine T_ret (retq ?_ (.one (.tmp rfl (Dat.view (.b rfl)))))
  rfl
 ·
  refine T_skip ?_
  refine T_seq ?_
  refine T_keep (kc 1 rfl <| kc 3 rfl <| kn) rfl ?_
  refine T_seq (T_reg ?_)
  refine R_q _ rfl (v_fieldR (ov rfl) tF25_1) ?_
  refine R_q _ rfl (v_loadS_r (ov rfl) tS3 rfl) ?_
  refine R_q _ rfl (v_neq (ov rfl) (ov rfl)) ?_
  refine R_nil ?_
  refine T_keep (kc 1 rfl <| kc 3 rfl <| kc 41 rfl <| kn) rfl ?_
  refine T_if h rfl (fun b41 h => ?_) (fun b41 h => ?_)
  ·
   refine T_seq ?_
   refine T_keep (kc 1 rfl <| kn) rfl ?_
   refine T_seq (T_reg ?_)
   refine R_q _ rfl (v_fieldR (ov rfl) tF25_7) ?_
   refine R_q _ rfl (v_loadS_r (ov rfl) tS23 rfl) ?_
   refine R_q _ rfl (v_len (slv_sl (ov rfl) tZ_9) tL23 (len_map _ _)) ?_
   refine R_q _ rfl (v_gtr (ov rfl) (ov rfl)) ?_
   refine R_nil ?_
   refine T_keep (kc 45 rfl <| kn) rfl ?_
   refine T_if h rfl (fun b45 h => ?_) (fun b45 h => ?_)
   ·
    refine T_keep (kn) rfl ?_
    refine T_seq (T_reg ?_)
    refine R_q _ rfl (v_assign (ov rfl)) ?_
    refine R_nil ?_
    obtain rfl := rt (v := 2) h
    refine T_ret (retq ?_ (.one (.tmp rfl (Dat.view (.b rfl)))))
    rfl
   ·
    refine T_skip ?_
    refine T_keep (kn) rfl ?_
    refine T_seq (T_reg ?_)
    refine R_q _ rfl (v_assign (ov rfl)) ?_
    refine R_nil ?_
    obtain rfl := rt (v := 0) h
    refine T_ret (retq ?_ (.one (.tmp rfl (Dat.view (.b rfl)))))
    rfl
  ·
   refine T_skip ?_
   refine T_seq ?_
   refine T_block ?_
   refine T_keep (kc 1 rfl <| kc 3 rfl <| kn) rfl ?_
   refine T_seq (T_reg ?_)
   refine R_q _ rfl (v_fieldR (ov rfl) tF25_7) ?_
   refine R_q _ rfl (v_loadS_r (ov rfl) tS23 rfl) ?_
   refine R_q _ rfl (v_len (slv_sl (ov rfl) tZ_9) tL23 (len_map _ _)) ?_
   refine R_q _ rfl (v_eql (ov rfl) (ov rfl)) ?_
   refine R_q _ rfl (v_assign (ov rfl)) ?_
   refine R_nil ?_
   refine T_keep (kc 1 rfl <| kc 3 rfl <| kc 46 rfl <| kn) rfl ?_
   refine T_if h rfl (fun b46 h => ?_) (fun b46 h => ?_)
   ·
    refine T_keep (kn) rfl ?_
    refine T_seq (T_reg ?_)
    refine R_q _ rfl (v_assign (ov rfl)) ?_
    refine R_nil ?_
    obtain rfl := rt (v := 13) h
    refine T_ret (retq ?_ (.one (.tmp rfl (Dat.view (.b rfl)))))
    rfl
   ·
    refine T_keep (kc 1 rfl <| kc 3 rfl <| kn) rfl ?_
    refine T_seq (T_draw (cw := md0) (by kernel_rfl) ?_)
    refine D_q0 0 _ rfl (by kernel_rfl) rfl rfl (v_fieldR (ov rfl) tF25_7) ?_
    refine D_q0 1 _ rfl (by kernel_rfl) rfl rfl (v_loadS_r (ov rfl) tS23 rfl) ?_
    refine D_q0 2 _ rfl (by kernel_rfl) rfl rfl (v_len (slv_sl (ov rfl) tZ_9) tL23 (len_map _ _)) ?_
    refine D_q0 3 _ rfl (by kernel_rfl) rfl rfl (v_gtr (ov rfl) (ov rfl)) ?_
    refine D_q0 4 _ rfl (by kernel_rfl) rfl rfl (v_move (ov rfl)) ?_
    refine D_q0 5 _ rfl (by kernel_rfl) rfl rfl (.guarded ((decide (64 < (p.Names.length : Int))) == false) rfl rfl rfl rfl fun h => v_fieldR (ov rfl) tF25_7) ?_
    refine D_q0 6 _ rfl (by kernel_rfl) rfl rfl (.guarded ((decide (64 < (p.Names.length : Int))) == false) rfl rfl rfl rfl fun h => v_loadS_r (ow rfl h) tS23 rfl) ?_
    refine D_q0 7 _ rfl (by kernel_rfl) rfl rfl (.guarded ((decide (64 < (p.Names.length : Int))) == false) rfl rfl rfl rfl fun h => v_len (slv_sl (ow rfl h) tZ_9) tL23 (len_map _ _)) ?_
    refine D_q0 8 _ rfl (by kernel_rfl) rfl rfl (.guarded ((decide (64 < (p.Names.length : Int))) == false) rfl rfl rfl rfl fun h => v_move (ov rfl)) ?_
    obtain ⟨q2, h_q2, h⟩ := bnd h
    refine D_q0 9 _ rfl (by kernel_rfl) rfl rfl (.guarded ((decide (64 < (p.Names.length : Int))) == false) rfl rfl rfl rfl fun h => v_shlG (ov rfl) (ow rfl h) (gdT h_q2 h)) ?_
    refine D_q0 10 _ rfl (by kernel_rfl) rfl rfl (.guarded ((decide (64 < (p.Names.length : Int))) == false) rfl rfl rfl rfl fun h => v_gtr (ow rfl h) (ow rfl h)) ?_
    refine D_q0 11 _ rfl (by kernel_rfl) rfl rfl (v_or (ov rfl) (fun hp => ow rfl (gF hp))) ?_
    refine D_q0 12 _ rfl (by kernel_rfl) rfl rfl (v_assign (ov rfl)) ?_
    refine D_done (by kernel_rfl) ?_
    refine T_keep (kc 1 rfl <| kc 51 rfl <| kn) rfl ?_
    refine T_if h rfl (fun b51 h => ?_) (fun b51 h => ?_)
    ·
     refine T_keep (kn) rfl ?_
     refine T_seq (T_reg ?_)
     refine R_q _ rfl (v_assign (ov rfl)) ?_
     refine R_nil ?_
     obtain rfl := rt (v := 3) h
     refine T_ret (retq ?_ (.one (.tmp rfl (Dat.view (.b rfl)))))
     rfl
    ·
     refine T_skip ?_
     refine T_joinG (fun j => (.inr j)) (t0 ⟨[], []⟩) h (fun h => ?_) (fun j h => ?_)
     ·
      refine T_keep (kc 1 rfl <| kn) rfl ?_
      refine T_seq (T_reg ?_)
      refine R_q _ rfl (v_fieldR (ov rfl) tF25_7) ?_
      refine R_q _ rfl (v_loadS_r (ov rfl) tS23 rfl) ?_
      refine R_q _ rfl (v_len (slv_sl (ov rfl) tZ_9) tL23 (len_map _ _)) ?_
      refine R_q _ rfl (v_move (ov rfl)) ?_
      refine R_nil ?_
      refine T_block ?_
      obtain ⟨r1, hl1, ho1⟩ := bndL h
      refine T_loopG _ (t1 fun i => ⟨[(1, .rp [.str p.Name, .int .i64 p.Kind, .sl 113 (List.map R113 p.Parts), .int .i64 p.First, .int .i64 p.Every, .int .i64 p.Times, .int .i64 p.Step, .sl 9 (List.map R9 p.Names)] 0), (65, .sl 9 (List.map R9 p.Names)), (66, .int .i64 (p.Names.length : Int)), (67, .int .i64 i)], []⟩) _ hl1 (Ent.sel [] (sd 1 rfl rfl <| sd 65 rfl rfl <| sd 66 rfl rfl <| sd 67 rfl rfl <| sn) (.nil) rfl rfl) (fun n1 s1 h => ?_)
      obtain ⟨i, rfl⟩ : ∃ x, x = s1 := ⟨_, rfl⟩
      replace h := t1i h
      refine t1T ?_
      unfold layout_checkNames_L1 at h
      refine T_seq (T_reg ?_)
      refine R_q _ rfl (v_lss (ov rfl) (ov rfl)) ?_
      refine R_nil ?_
      refine T_seq ?_
      refine T_if h rfl (fun b68 h => ?_) (fun b68 h => ?_)
      ·
       refine T_skip ?_
       refine T_seq ?_
       refine T_block ?_
       refine T_keep (kc 1 rfl <| kc 65 rfl <| kc 66 rfl <| kc 67 rfl <| kn) rfl ?_
       refine T_seq (T_reg ?_)
       refine R_q _ rfl (v_move (ov rfl)) ?_
       obtain ⟨x, h_x, h⟩ := bnd h
       refine R_q _ rfl (v_ixSG (ov rfl) (ov rfl) tL23 h_x) ?_
       refine R_q _ rfl (v_loadS_r (ov rfl) tS9 rfl) ?_
       refine R_q _ rfl (v_assign (ov rfl)) ?_
       refine R_q _ rfl (v_assign (ov rfl)) ?_
       refine R_nil ?_
       refine T_seq ?_
       refine T_keep (kc 1 rfl <| kc 4 rfl <| kc 5 rfl <| kc 65 rfl <| kc 66 rfl <| kc 67 rfl <| kn) rfl ?_
       refine T_seq (T_reg ?_)
       refine R_q _ rfl (v_move (ov rfl)) ?_
       obtain ⟨y2, h_y2, h⟩ := bnd h
       refine R_q _ rfl (v_call (ok_layout_isName h_y2) (.cons (ov rfl) (.b rfl) <| .nil)) ?_
       refine R_q _ rfl (v_not (ov rfl)) ?_
       refine R_nil ?_
       refine T_keep (kc 1 rfl <| kc 4 rfl <| kc 5 rfl <| kc 65 rfl <| kc 66 rfl <| kc 67 rfl <| kc 74 rfl <| kn) rfl ?_
       refine T_if h rfl (fun b74 h => ?_) (fun b74 h => ?_)
       ·
        refine T_keep (kn) rfl ?_
        refine T_seq (T_reg ?_)
        refine R_q _ rfl (v_assign (ov rfl)) ?_
        refine R_nil ?_
        rw [lx h] at ho1
        replace h := ho1
        obtain rfl := rt (v := 8) h
        refine T_ret (retq ?_ (.one (.tmp rfl (Dat.view (.b rfl)))))
        rfl
       ·
        refine T_skip ?_
        refine T_keep (kc 1 rfl <| kc 4 rfl <| kc 5 rfl <| kc 65 rfl <| kc 66 rfl <| kc 67 rfl <| kn) rfl ?_
        refine T_seq (T_reg ?_)
        refine R_q _ rfl (v_fieldR (ov rfl) tF25_7) ?_
        refine R_q _ rfl (v_loadS_r (ov rfl) tS23 rfl) ?_
        refine R_q _ rfl (v_move (ov rfl)) ?_
        obtain ⟨l, h_l, h⟩ := bnd h
        refine R_q _ rfl (v_sliceG (ov rfl) tL23 on (oi (ov rfl)) h_l) ?_
        refine R_q _ rfl (v_move (ov rfl)) ?_
        obtain ⟨y3, h_y3, h⟩ := bnd h
        refine R_q _ rfl (v_call (ok_slices_Contains_string_string h_y3) (.cons (ov rfl) (.b rfl) <| .cons (ov rfl) (.b rfl) <| .nil)) ?_
        refine R_nil ?_
        refine T_keep (kc 1 rfl <| kc 65 rfl <| kc 66 rfl <| kc 67 rfl <| kc 80 rfl <| kn) rfl ?_
        refine T_if h rfl (fun b80 h => ?_) (fun b80 h => ?_)
        ·
         refine T_keep (kn) rfl ?_
         refine T_seq (T_reg ?_)
         refine R_q _ rfl (v_assign (ov rfl)) ?_
         refine R_nil ?_
         rw [lx h] at ho1
         replace h := ho1
         obtain rfl := rt (v := 5) h
         refine T_ret (retq ?_ (.one (.tmp rfl (Dat.view (.b rfl)))))
         rfl
        ·
         refine T_skip ?_
         refine T_keep (kc 1 rfl <| kc 65 rfl <| kc 66 rfl <| kc 67 rfl <| kn) rfl ?_
         refine T_reg ?_
         refine R_q _ rfl (v_add (ov rfl) (ov rfl) rfl) ?_
         refine R_q _ rfl (v_move (ov rfl)) ?_
         refine R_nil ?_
         exact ⟨(i64 (i + 1)), h, Ent.sel [] (sd 1 rfl rfl <| sd 65 rfl rfl <| sd 66 rfl rfl <| sd 67 rfl rfl <| sn) (.nil) rfl rfl⟩
      ·
       refine T_exit ?_
       rw [lx h] at ho1
       replace h := ho1
       exact ⟨(), h, Ent.sel [] (sn) (.nil) rfl rfl⟩
     ·
      replace h := elr h
      cases j
      replace h := t0i h
      refine t0T ?_
      refine T_seq (T_reg ?_)
      refine R_q _ rfl (v_assign (ov rfl)) ?_
      refine R_nil ?_
      obtain rfl := rt (v := 0) h
      refine T_ret (retq ?_ (.one (.tmp rfl (Dat.view (.b rfl)))))
      rfl

theorem ok_slices_IndexFunc_api_Part_api_Part {s : List api_Part} {f : api_Part → Option Bool} {r : Int} {f_f : FuncId} {f_c : List AV} (f_d : f_c.all datB = true) (f_h : ∀ (z0 : api_Part) z, f z0 = some z → CSpec Tryd.prog gl0 f_f ([.agg [.int .i64 z0.Frame, .int .i64 z0.Word, .int .i64 z0.Low, .int .i64 z0.Bits]] ++ f_c) (.bool z)) (h : slices_IndexFunc_api_Part_api_Part s f = some r) :
  CSpec Tryd.prog gl0 124 [.sl 113 (List.map R113 s), .fn f_f f_c] (.int .i64 r) := by
 unfold slices_IndexFunc_api_Part_api_Part at h
 replace h := bnd0 h
 refine spec_of (by kernel_rfl) Tryd.func124 rfl rfl ?_
 intro w0 A
 refine T_seq (T_reg ?_)
 refine R_q _ rfl (v_assign (ov rfl)) ?_
 refine R_nil ?_
 refine T_joinG (fun j => (.inr j)) (t0 ⟨[], []⟩) h (fun h => ?_) (fun j h => ?_)
 ·
  refine T_keep (kc 0 rfl <| kc 1 rfl <| kn) rfl ?_
  refine T_seq (T_reg ?_)
  refine R_q _ rfl (v_move (ov rfl)) ?_
  refine R_q _ rfl (v_len (slv_sl (ov rfl) tZ_113) tL22 (len_map _ _)) ?_
  refine R_q _ rfl (v_move (ov rfl)) ?_
  refine R_nil ?_
  refine T_block ?_
  obtain ⟨r1, hl1, ho1⟩ := bndL h
  refine T_loopG _ (t1 fun i => ⟨[(0, .sl 113 (List.map R113 s)), (1, .fn f_f f_c), (7, .int .i64 (s.length : Int)), (8, .int .i64 i)], []⟩) _ hl1 (Ent.sel [] (sd 0 rfl rfl <| sr 1 rfl (rFn (rld f_d)) <| sd 7 rfl rfl <| sd 8 rfl rfl <| sn) (.nil) rfl rfl) (fun n1 s1 h => ?_)
  obtain ⟨i, rfl⟩ : ∃ x, x = s1 := ⟨_, rfl⟩
  replace h := t1i h
  refine t1T ?_
  unfold slices_IndexFunc_api_Part_api_Part_L1 at h
  refine T_seq (T_reg ?_)
  refine R_q _ rfl (v_lss (ov rfl) (ov rfl)) ?_
  refine R_nil ?_
  refine T_seq ?_
  refine T_if h rfl (fun b9 h => ?_) (fun b9 h => ?_)
  ·
   refine T_skip ?_
   refine T_seq ?_
   refine T_block ?_
   refine T_keep (kc 0 rfl <| kc 1 rfl <| kc 7 rfl <| kc 8 rfl <| kn) rfl ?_
   refine T_seq (T_reg ?_)
   refine R_q _ rfl (v_move (ov rfl)) ?_
   refine R_q _ rfl (v_assign (ov rfl)) ?_
   refine R_nil ?_
   refine T_keep (kc 0 rfl <| kc 1 rfl <| kc 5 rfl <| kc 7 rfl <| kc 8 rfl <| kn) rfl ?_
   refine T_seq (T_reg ?_)
   refine R_q _ rfl (v_move (ov rfl)) ?_
   refine R_q _ rfl (v_move (ov rfl)) ?_
   refine R_q _ rfl (v_move (ov rfl)) ?_
   obtain ⟨x, h_x, h⟩ := bnd h
   refine R_q _ rfl (v_ixSG (ov rfl) (ov rfl) tL22 h_x) ?_
   refine R_q _ rfl (v_loadA_r (ov rfl) tA113 rfl rfl) ?_
   obtain ⟨y, h_y, h⟩ := bnd h
   refine R_q _ rfl (v_callC (ov rfl) f_d (f_h _ _ h_y) (.cons (ov rfl) (.aggB rfl) <| .nil)) ?_
   refine R_nil ?_
   refine T_keep (kc 0 rfl <| kc 1 rfl <| kc 5 rfl <| kc 7 rfl <| kc 8 rfl <| kc 16 rfl <| kn) rfl ?_
   refine T_if h rfl (fun b16 h => ?_) (fun b16 h => ?_)
   ·
    refine T_keep (kc 5 rfl <| kn) rfl ?_
    refine T_seq (T_reg ?_)
    refine R_q _ rfl (v_move (ov rfl)) ?_
    refine R_q _ rfl (v_assign (ov rfl)) ?_
    refine R_nil ?_
    rw [lx h] at ho1
    replace h := ho1
    obtain rfl := rt (v := i) h
    refine T_ret (retq ?_ (.one (.tmp rfl (Dat.view (.b rfl)))))
    rfl
   ·
    refine T_skip ?_
    refine T_keep (kc 0 rfl <| kc 1 rfl <| kc 7 rfl <| kc 8 rfl <| kn) rfl ?_
    refine T_reg ?_
    refine R_q _ rfl (v_add (ov rfl) (ov rfl) rfl) ?_
    refine R_q _ rfl (v_move (ov rfl)) ?_
    refine R_nil ?_
    exact ⟨(i64 (i + 1)), h, Ent.sel [] (sd 0 rfl rfl <| sr 1 rfl (rFn (rld f_d)) <| sd 7 rfl rfl <| sd 8 rfl rfl <| sn) (.nil) rfl rfl⟩
  ·
   refine T_exit ?_
   rw [lx h] at ho1
   replace h := ho1
   exact ⟨(), h, Ent.sel [] (sn) (.nil) rfl rfl⟩
 ·
  replace h := elr h
  cases j
  replace h := t0i h
  refine t0T ?_
  refine T_seq (T_reg ?_)
  refine R_q _ rfl (v_assign (ov rfl)) ?_
  refine R_nil ?_
  obtain rfl := rt (v := (-1)) h
  refine T_ret (retq ?_ (.one (.tmp rfl (Dat.view (.b rfl)))))
  rfl

theorem ok_slices_ContainsFunc_api_Part_api_Part {s : List api_Part} {f : api_Part → Option Bool} {r : Bool} {f_f : FuncId} {f_c : List AV} (f_d : f_c.all datB = true) (f_h : ∀ (z0 : api_Part) z, f z0 = some z → CSpec Tryd.prog gl0 f_f ([.agg [.int .i64 z0.Frame, .int .i64 z0.Word, .int .i64 z0.Low, .int .i64 z0.Bits]] ++ f_c) (.bool z)) (h : slices_ContainsFunc_api_Part_api_Part s f = some r) :
  CSpec Tryd.prog gl0 97 [.sl 113 (List.map R113 s), .fn f_f f_c] (.bool r) := by
 unfold slices_ContainsFunc_api_Part_api_Part at h
 replace h := bnd0 h
 refine spec_of (by kernel_rfl) Tryd.func97 rfl rfl ?_
 intro w0 A
 refine T_seq (T_reg ?_)
 refine R_q _ rfl (v_assign (ov rfl)) ?_
 refine R_nil ?_
 refine T_seq (T_reg ?_)
 refine R_q _ rfl (v_move (ov rfl)) ?_
 refine R_q _ rfl (v_move (ov rfl)) ?_
 obtain ⟨y, h_y, h⟩ := bnd h
 refine R_q _ rfl (v_call (ok_slices_IndexFunc_api_Part_api_Part f_d f_h h_y) (.cons (ov rfl) (.b rfl) <| .cons (ov rfl) (Dat.fnC (.refl fun x hx => .b (List.all_eq_true.1 f_d x hx))) <| .nil)) ?_
 refine R_q _ rfl (v_geq (ov rfl) (ov rfl)) ?_
 refine R_q _ rfl (v_assign (ov rfl)) ?_
 refine R_nil ?_
 obtain rfl := rt (v := (decide (0 ≤ y))) h
 refine T_ret (retq ?_ (.one (.tmp rfl (Dat.view (.b rfl)))))
 rfl

theorem ok_layout_starts_1 {x : api_Part} {c0 : Int} {r : Bool} (h : layout_starts_1 x c0 = some r) :
  CSpec Tryd.prog gl0 98 [.agg [.int .i64 x.Frame, .int .i64 x.Word, .int .i64 x.Low, .int .i64 x.Bits], .rp [.int .i64 c0] 0] (.bool r) := by
 unfold layout_starts_1 at h
 replace h := bnd0 h
 refine spec_of (by kernel_rfl) Tryd.func98 rfl rfl ?_
 intro w0 A
 refine T_seq (T_reg ?_)
 refine R_q _ rfl (v_boxD (cva (ov rfl)) rfl tZ_113 rfl) ?_
 refine R_q _ rfl (v_assign (ov rfl)) ?_
 refine R_nil ?_
 refine T_keep (kc 1 rfl <| kc 2 rfl <| kc 3 rfl <| kn) rfl ?_
 refine T_seq (T_reg ?_)
 refine R_q _ rfl (v_loadS_r (ov rfl) tS3 rfl) ?_
 refine R_q _ rfl (v_fieldR (ov rfl) tF113_0) ?_
 refine R_q _ rfl (v_loadS_r (ov rfl) tS3 rfl) ?_
 refine R_q _ rfl (v_add (ov rfl) (ov rfl) rfl) ?_
 refine R_q _ rfl (v_geq (ov rfl) (ov rfl)) ?_
 refine R_q _ rfl (v_assign (ov rfl)) ?_
 refine R_nil ?_
 obtain rfl := rt (v := (decide (16 ≤ (i64 (c0 + x.Frame))))) h
 refine T_ret (retq ?_ (.one (.tmp rfl (Dat.view (.b rfl)))))
 rfl

theorem ok_layout_starts {p : api_Param} {r : (List Int)} (h : layout_starts p = some r) :
  CSpec Tryd.prog gl0 67 [.agg [.str p.Name, .int .i64 p.Kind, .sl 113 (List.map R113 p.Parts), .int .i64 p.First, .int .i64 p.Every, .int .i64 p.Times, .int .i64 p.Step, .sl 9 (List.map R9 p.Names)]] (.sl 3 (List.map R3 r)) := by
 unfold layout_starts at h
 replace h := bnd0 h
 refine spec_of (by kernel_rfl) Tryd.func67 rfl rfl ?_
 intro w0 A
 refine T_seq (T_reg ?_)
 refine R_q _ rfl (v_boxD (cva (ov rfl)) rfl tZ_25 rfl) ?_
 refine R_q _ rfl (v_assign (ov rfl)) ?_
 refine R_nil ?_
 refine T_keep (kc 1 rfl <| kn) rfl ?_
 refine T_seq (T_reg ?_)
 refine R_q _ rfl (v_assign (ov rfl)) ?_
 refine R_nil ?_
 refine T_joinG id (t1 fun out => ⟨[(3, .own 0 out.length)], [some ⟨3, List.map R3 out⟩]⟩) h (fun h => ?_) (fun j h => ?_)
 ·
  refine T_seq (T_reg ?_)
  refine R_q _ rfl (v_fieldR (ov rfl) tF25_3) ?_
  refine R_q _ rfl (v_loadS_r (ov rfl) tS3 rfl) ?_
  refine R_w _ _ rfl (w_alloc (row := [_]) 0 rfl tZ3 rfl tZ_3) ?_
  refine R_w _ _ rfl (w_store (ov rfl) (ov rfl) (cells_scal tS3) rfl rfl rfl (Nat.le_of_ble_eq_true rfl) (cell1_all rfl) rfl) ?_
  refine R_nil ?_
  refine T_block ?_
  obtain ⟨r1, hl1, ho1⟩ := bndL h
  refine T_loopG _ (t2 fun out2 f => ⟨[(1, .rp [.str p.Name, .int .i64 p.Kind, .sl 113 (List.map R113 p.Parts), .int .i64 p.First, .int .i64 p.Every, .int .i64 p.Times, .int .i64 p.Step, .sl 9 (List.map R9 p.Names)] 0), (3, .own 0 out2.length), (4, .ptr 1 1 0 0)], [some ⟨3, List.map R3 out2⟩, some ⟨3, [[.int .i64 f]]⟩]⟩) _ hl1 (Ent.sel [none, some 0] (sd 1 rfl rfl <| sr 3 rfl (.row rfl) <| sr 4 rfl (.ptr _ _ _ rfl) <| sn) (.row 3 <| .cons rfl (ro1 (by exact tZ_3.symm) (rld rfl)) <| .nil) rfl rfl) (fun n1 s1 h => ?_)
  obtain ⟨out2, f⟩ := s1
  replace h := t2i h
  refine t2T ?_
  unfold layout_starts_L1 at h
  refine T_seq ?_
  refine T_seq (T_reg ?_)
  refine R_q _ rfl (v_loadS (ov rfl) rfl rfl rfl tS3 rfl) ?_
  refine R_q _ rfl (v_lss (ov rfl) (ov rfl)) ?_
  refine R_nil ?_
  refine T_keep (kc 1 rfl <| kc 3 rfl <| kc 4 rfl <| kc 8 rfl <| kn) rfl ?_
  refine T_if h rfl (fun b8 h => ?_) (fun b8 h => ?_)
  ·
   refine T_skip ?_
   refine T_joinG id (t1 fun out3 => ⟨[(1, .rp [.str p.Name, .int .i64 p.Kind, .sl 113 (List.map R113 p.Parts), .int .i64 p.First, .int .i64 p.Every, .int .i64 p.Times, .int .i64 p.Step, .sl 9 (List.map R9 p.Names)] 0), (3, .own 0 out3.length), (4, .rp [.int .i64 f] 0)], [some ⟨3, List.map R3 out3⟩]⟩) h (fun h => ?_) (fun j h => ?_)
   ·
    refine T_block ?_
    refine T_keep (kc 1 rfl <| kc 3 rfl <| kc 4 rfl <| kn) rfl ?_
    refine T_seq (T_reg ?_)
    refine R_q _ rfl (v_fieldR (ov rfl) tF25_2) ?_
    refine R_q _ rfl (v_loadS_r (ov rfl) tS22 rfl) ?_
    refine R_ent (Ent.sel [some 0, none] (sd 1 rfl rfl <| sr 3 rfl (.own (r' := 0) _ rfl) <| sr 4 rfl (.frp ⟨rfl, ⟨_, rfl⟩, rfl, rfl⟩) <| sd 13 rfl rfl <| sd 14 rfl rfl <| sn) (.cons rfl (roM D3) <| .row 3 <| .nil) rfl rfl) ?_
    refine R_q _ rfl (v_makeFunc (.cons (ov rfl) <| .nil)) ?_
    obtain ⟨y, h_y, h⟩ := bnd h
    refine R_q _ rfl (v_call (ok_slices_ContainsFunc_api_Part_api_Part rfl (fun z0 _ hz => ok_layout_starts_1 hz) h_y) (.cons (ov rfl) (.b rfl) <| .cons (ov rfl) (.fnC (.cons (.b rfl) <| .nil)) <| .nil)) ?_
    refine R_q _ rfl (v_not (ov rfl)) ?_
    refine R_nil ?_
    refine T_keep (kc 1 rfl <| kc 3 rfl <| kc 4 rfl <| kc 17 rfl <| kn) rfl ?_
    refine T_if h rfl (fun b17 h => ?_) (fun b17 h => ?_)
    ·
     refine T_keep (kc 1 rfl <| kc 3 rfl <| kc 4 rfl <| kn) rfl ?_
     refine T_reg ?_
     refine R_q _ rfl (v_move (ov rfl)) ?_
     refine R_q _ rfl (v_loadS_r (ov rfl) tS3 rfl) ?_
     refine R_q (.sl 3 (List.map R3 ([f] : List Int))) rfl (v_lit tL26 (.cons (cvs (ov rfl) (cell1_b rfl)) rfl (.cons (.b rfl) .nil) <| .nil) rfl rfl) ?_
     obtain ⟨l, h_l, h⟩ := bnd h
     refine R_w _ _ rfl (w_appendG (ov rfl) (slv_sl (ov rfl) tZ_3) tL26 rfl rfl rfl (fun _ => cell1_all rfl) rfl h_l) ?_
     refine R_q _ rfl (v_assign (ov rfl)) ?_
     refine R_nil ?_
     exact ⟨l, h, Ent.sel [some 0] (sd 1 rfl rfl <| sr 3 rfl (.own _ rfl) <| sd 4 rfl rfl <| sn) (.cons rfl (roM D3) <| .nil) rfl rfl⟩
    ·
     refine T_skip ?_
     exact ⟨out2, h, Ent.sel [some 0] (sd 1 rfl rfl <| sr 3 rfl (.own _ rfl) <| sd 4 rfl rfl <| sn) (.cons rfl (roM D3) <| .nil) rfl rfl⟩
   ·
    obtain ⟨out3, rfl⟩ : ∃ x, x = j := ⟨_, rfl⟩
    replace h := t1i h
    refine t1T ?_
    refine T_seq ?_
    refine T_seq (T_reg ?_)
    refine R_q _ rfl (v_loadS_r (ov rfl) tS3 rfl) ?_
    refine R_nil ?_
    refine T_reg ?_
    refine R_w _ _ rfl (w_alloc (row := [_]) 1 rfl tZ3 rfl tZ_3) ?_
    refine R_w _ _ rfl (w_store (ov rfl) (ov rfl) (cells_scal tS3) rfl rfl rfl (Nat.le_of_ble_eq_true rfl) (cell1_all rfl) rfl) ?_
    refine R_nil ?_
    refine T_keep (kc 1 rfl <| kc 3 rfl <| kc 4 rfl <| kn) rfl ?_
    refine T_reg ?_
    refine R_q _ rfl (v_loadS (ov rfl) rfl rfl rfl tS3 rfl) ?_
    refine R_q _ rfl (v_fieldR (ov rfl) tF25_4) ?_
    refine R_q _ rfl (v_loadS_r (ov rfl) tS3 rfl) ?_
    refine R_q _ rfl (v_add (ov rfl) (ov rfl) rfl) ?_
    refine R_w _ _ rfl (w_store (ov rfl) (ov rfl) (cells_scal tS3) rfl rfl rfl (Nat.le_of_ble_eq_true rfl) (cell1_all rfl) rfl) ?_
    refine R_nil ?_
    exact ⟨(out3, (i64 (f + p.Every))), h, Ent.sel [some 0, some 1] (sd 1 rfl rfl <| sr 3 rfl (.own _ rfl) <| sr 4 rfl (.ptr _ _ _ rfl) <| sn) (.cons rfl (roM D3) <| .cons rfl (ro1 (by exact tZ_3.symm) (rld rfl)) <| .nil) rfl rfl⟩
  ·
   refine T_exit ?_
   rw [lx h] at ho1
   replace h := ho1
   exact ⟨out2, h, Ent.sel [some 0] (sr 3 rfl (.own _ rfl) <| sn) (.cons rfl (roM D3) <| .nil) rfl rfl⟩
 ·
  obtain ⟨out, rfl⟩ : ∃ x, x = j := ⟨_, rfl⟩
  replace h := t1i h
  refine t1T ?_
  refine T_seq (T_reg ?_)
  refine R_q _ rfl (v_move (ov rfl)) ?_
  refine R_q _ rfl (v_assign (ov rfl)) ?_
  refine R_nil ?_
  obtain rfl := rt (v := out) h
  refine T_ret (retq ?_ (.one (.tmp rfl (View.ownM rfl rfl D3))))
  rfl

theorem ok_layout_placeOf {p : api_Param} {x : api_Part} {f : Int} {j : Int} {r : api_Place} (h : layout_placeOf p x f j = some r) :
  CSpec Tryd.prog gl0 68 [.agg [.str p.Name, .int .i64 p.Kind, .sl 113 (List.map R113 p.Parts), .int .i64 p.First, .int .i64 p.Every, .int .i64 p.Times, .int .i64 p.Step, .sl 9 (List.map R9 p.Names)], .agg [.int .i64 x.Frame, .int .i64 x.Word, .int .i64 x.Low, .int .i64 x.Bits], .int .i64 f, .int .i64 j] (.agg [.int .i64 r.Frame, .int .i64 r.Word, .int .i64 r.Low, .int .i64 r.Bits]) := by
 unfold layout_placeOf at h
 replace h := bnd0 h
 refine spec_of (by kernel_rfl) Tryd.func68 rfl rfl ?_
 intro w0 A
 refine T_seq (T_reg ?_)
 refine R_q _ rfl (v_boxD (cva (ov rfl)) rfl tZ_25 rfl) ?_
 refine R_q _ rfl (v_boxD (cva (ov rfl)) rfl tZ_113 rfl) ?_
 refine R_w _ _ rfl (w_alloc (row := [_, _, _, _]) 0 rfl tZ118 rfl tZ_118) ?_
 refine R_nil ?_
 refine T_keep (kc 2 rfl <| kc 3 rfl <| kc 4 rfl <| kc 5 rfl <| kc 8 rfl <| kn) rfl ?_
 refine T_seq (T_reg ?_)
 refine R_q _ rfl (v_move (ov rfl)) ?_
 refine R_q _ rfl (v_fieldR (ov rfl) tF113_0) ?_
 refine R_q _ rfl (v_loadS_r (ov rfl) tS3 rfl) ?_
 refine R_q _ rfl (v_add (ov rfl) (ov rfl) rfl) ?_
 refine R_q _ rfl (v_fieldR (ov rfl) tF113_1) ?_
 refine R_q _ rfl (v_loadS_r (ov rfl) tS3 rfl) ?_
 refine R_q _ rfl (v_move (ov rfl)) ?_
 refine R_q _ rfl (v_fieldR (ov rfl) tF25_6) ?_
 refine R_q _ rfl (v_loadS_r (ov rfl) tS3 rfl) ?_
 refine R_q _ rfl (v_mul (ov rfl) (ov rfl) rfl) ?_
 refine R_q _ rfl (v_add (ov rfl) (ov rfl) rfl) ?_
 refine R_q _ rfl (v_fieldR (ov rfl) tF113_2) ?_
 refine R_q _ rfl (v_loadS_r (ov rfl) tS3 rfl) ?_
 refine R_q _ rfl (v_fieldR (ov rfl) tF113_3) ?_
 refine R_q _ rfl (v_loadS_r (ov rfl) tS3 rfl) ?_
 refine R_q _ rfl (v_build (ys := [_, _, _, _]) tPL118 tHA118 tZ118 (.cons (cvs (ov rfl) (cell1_b rfl)) <| .cons (cvs (ov rfl) (cell1_b rfl)) <| .cons (cvs (ov rfl) (cell1_b rfl)) <| .cons (cvs (ov rfl) (cell1_b rfl)) <| .nil) rfl) ?_
 refine R_w _ _ rfl (w_store (ov rfl) (ov rfl) (cells_agg tA118 rfl) rfl rfl rfl (Nat.le_of_ble_eq_true rfl) (cell1_all rfl) rfl) ?_
 refine R_nil ?_
 obtain rfl := rt (v := (api_Place.mk (i64 (f + x.Frame)) (i64 (x.Word + (i64 (j * p.Step)))) x.Low x.Bits)) h
 refine T_ret (retq ?_ (.one (.agg rfl rfl rfl rfl tA118 rfl rfl (pwB rfl))))
 rfl

theorem ok_layout_cellsOf {number : Int} {p : api_Param} {r : (List api_Cell)} (h : layout_cellsOf number p = some r) :
  CSpec Tryd.prog gl0 38 [.int .i64 number, .agg [.str p.Name, .int .i64 p.Kind, .sl 113 (List.map R113 p.Parts), .int .i64 p.First, .int .i64 p.Every, .int .i64 p.Times, .int .i64 p.Step, .sl 9 (List.map R9 p.Names)]] (.sl 87 (List.map R87 r)) := by
 unfold layout_cellsOf at h
 replace h := bnd0 h
 refine spec_of (by kernel_rfl) Tryd.func38 rfl rfl ?_
 intro w0 A
 refine T_seq (T_reg ?_)
 refine R_q _ rfl (v_boxD (cva (ov rfl)) rfl tZ_25 rfl) ?_
 refine R_q _ rfl (v_assign (ov rfl)) ?_
 refine R_nil ?_
 refine T_keep (kc 0 rfl <| kc 3 rfl <| kn) rfl ?_
 refine T_seq (T_reg ?_)
 refine R_q _ rfl (v_assign (ov rfl)) ?_
 refine R_nil ?_
 refine T_joinG id (t1 fun out => ⟨[(5, .own 0 out.length)], [some ⟨87, List.map R87 out⟩]⟩) h (fun h => ?_) (fun j h => ?_)
 ·
  refine T_seq (T_reg ?_)
  refine R_q _ rfl (v_loadA_r (ov rfl) tA25 rfl rfl) ?_
  obtain ⟨y, h_y, h⟩ := bnd h
  refine R_q _ rfl (v_call (ok_layout_starts h_y) (.cons (ov rfl) (.aggB rfl) <| .nil)) ?_
  refine R_q _ rfl (v_len (slv_sl (ov rfl) tZ_3) tL26 (len_map _ _)) ?_
  refine R_q _ rfl (v_move (ov rfl)) ?_
  refine R_nil ?_
  refine T_block ?_
  obtain ⟨r1, hl1, ho1⟩ := bndL h
  refine T_loopG _ (t2 fun out2 i => ⟨[(0, .int .i64 number), (3, .rp [.str p.Name, .int .i64 p.Kind, .sl 113 (List.map R113 p.Parts), .int .i64 p.First, .int .i64 p.Every, .int .i64 p.Times, .int .i64 p.Step, .sl 9 (List.map R9 p.Names)] 0), (5, .own 0 out2.length), (13, .sl 3 (List.map R3 y)), (14, .int .i64 (y.length : Int)), (15, .int .i64 i)], [some ⟨87, List.map R87 out2⟩]⟩) _ hl1 (Ent.sel [none] (sd 0 rfl rfl <| sd 3 rfl rfl <| sr 5 rfl (.row rfl) <| sd 13 rfl rfl <| sd 14 rfl rfl <| sd 15 rfl rfl <| sn) (.row 87 <| .nil) rfl rfl) (fun n1 s1 h => ?_)
  obtain ⟨out2, i⟩ := s1
  replace h := t2i h
  refine t2T ?_
  unfold layout_cellsOf_L1 at h
  refine T_seq (T_reg ?_)
  refine R_q _ rfl (v_lss (ov rfl) (ov rfl)) ?_
  refine R_nil ?_
  refine T_seq ?_
  refine T_if h rfl (fun b16 h => ?_) (fun b16 h => ?_)
  ·
   refine T_skip ?_
   refine T_joinG id (t1 fun out3 => ⟨[(0, .int .i64 number), (3, .rp [.str p.Name, .int .i64 p.Kind, .sl 113 (List.map R113 p.Parts), .int .i64 p.First, .int .i64 p.Every, .int .i64 p.Times, .int .i64 p.Step, .sl 9 (List.map R9 p.Names)] 0), (5, .own 0 out3.length), (13, .sl 3 (List.map R3 y)), (14, .int .i64 (y.length : Int)), (15, .int .i64 i)], [some ⟨87, List.map R87 out3⟩]⟩) h (fun h => ?_) (fun j h => ?_)
   ·
    refine T_block ?_
    refine T_keep (kc 0 rfl <| kc 3 rfl <| kc 5 rfl <| kc 13 rfl <| kc 14 rfl <| kc 15 rfl <| kn) rfl ?_
    refine T_seq (T_reg ?_)
    obtain ⟨x, h_x, h⟩ := bnd h
    refine R_q _ rfl (v_ixSG (ov rfl) (ov rfl) tL26 h_x) ?_
    refine R_q _ rfl (v_loadS_r (ov rfl) tS3 rfl) ?_
    refine R_q _ rfl (v_assign (ov rfl)) ?_
    refine R_nil ?_
    refine T_keep (kc 0 rfl <| kc 3 rfl <| kc 5 rfl <| kc 7 rfl <| kc 13 rfl <| kc 14 rfl <| kc 15 rfl <| kn) rfl ?_
    refine T_seq (T_reg ?_)
    refine R_q _ rfl (v_fieldR (ov rfl) tF25_5) ?_
    refine R_q _ rfl (v_loadS_r (ov rfl) tS3 rfl) ?_
    refine R_q _ rfl (v_move (ov rfl)) ?_
    refine R_nil ?_
    refine T_block ?_
    obtain ⟨r2, hl2, ho2⟩ := bndL h
    refine T_loopG _ (t2 fun out4 i2 => ⟨[(0, .int .i64 number), (3, .rp [.str p.Name, .int .i64 p.Kind, .sl 113 (List.map R113 p.Parts), .int .i64 p.First, .int .i64 p.Every, .int .i64 p.Times, .int .i64 p.Step, .sl 9 (List.map R9 p.Names)] 0), (5, .own 0 out4.length), (7, .int .i64 x), (13, .sl 3 (List.map R3 y)), (14, .int .i64 (y.length : Int)), (15, .int .i64 i), (20, .int .i64 p.Times), (21, .int .i64 i2)], [some ⟨87, List.map R87 out4⟩]⟩) _ hl2 (Ent.sel [some 0] (sd 0 rfl rfl <| sd 3 rfl rfl <| sr 5 rfl (.own _ rfl) <| sd 7 rfl rfl <| sd 13 rfl rfl <| sd 14 rfl rfl <| sd 15 rfl rfl <| sd 20 rfl rfl <| sd 21 rfl rfl <| sn) (.cons rfl (roM D87) <| .nil) rfl rfl) (fun n2 s2 h => ?_)
    obtain ⟨out4, i2⟩ := s2
    replace h := t2i h
    refine t2T ?_
    unfold layout_cellsOf_L2 at h
    refine T_seq (T_reg ?_)
    refine R_q _ rfl (v_lss (ov rfl) (ov rfl)) ?_
    refine R_nil ?_
    refine T_seq ?_
    refine T_if h rfl (fun b22 h => ?_) (fun b22 h => ?_)
    ·
     refine T_skip ?_
     refine T_seq ?_
     refine T_block ?_
     refine T_keep (kc 0 rfl <| kc 3 rfl <| kc 5 rfl <| kc 7 rfl <| kc 13 rfl <| kc 14 rfl <| kc 15 rfl <| kc 20 rfl <| kc 21 rfl <| kn) rfl ?_
     refine T_seq (T_reg ?_)
     refine R_q _ rfl (v_move (ov rfl)) ?_
     refine R_q _ rfl (v_assign (ov rfl)) ?_
     refine R_nil ?_
     refine T_keep (kc 0 rfl <| kc 3 rfl <| kc 5 rfl <| kc 7 rfl <| kc 8 rfl <| kc 13 rfl <| kc 14 rfl <| kc 15 rfl <| kc 20 rfl <| kc 21 rfl <| kn) rfl ?_
     refine T_seq (T_reg ?_)
     refine R_q _ rfl (v_move (ov rfl)) ?_
     refine R_q _ rfl (v_move (ov rfl)) ?_
     refine R_q _ rfl (v_lenO (ov rfl) rfl rfl tL45) ?_
     refine R_q _ rfl (v_move (ov rfl)) ?_
     refine R_q _ rfl (v_build (ys := [_, _, _, _]) tPL87 tHA87 tZ87 (.cons (cvs (ov rfl) (cell1_b rfl)) <| .cons (cvs (ov rfl) (cell1_b rfl)) <| .cons (cvs (ov rfl) (cell1_b rfl)) <| .nil) rfl) ?_
     refine R_w _ _ rfl (w_alloc (row := [_, _, _, _]) 1 rfl tZ87 rfl tZ_87) ?_
     refine R_w _ _ rfl (w_store (ov rfl) (ov rfl) (cells_agg tA87 rfl) rfl rfl rfl (Nat.le_of_ble_eq_true rfl) (cell1_all rfl) rfl) ?_
     refine R_nil ?_
     refine T_joinG id (t1 fun Places => ⟨[(0, .int .i64 number), (3, .rp [.str p.Name, .int .i64 p.Kind, .sl 113 (List.map R113 p.Parts), .int .i64 p.First, .int .i64 p.Every, .int .i64 p.Times, .int .i64 p.Step, .sl 9 (List.map R9 p.Names)] 0), (5, .own 0 out4.length), (7, .int .i64 x), (9, .ptr 1 1 0 0), (13, .sl 3 (List.map R3 y)), (14, .int .i64 (y.length : Int)), (15, .int .i64 i), (20, .int .i64 p.Times), (21, .int .i64 i2)], [some ⟨87, List.map R87 out4⟩, some ⟨87, [[.int .i64 number, .int .i64 (out4.length : Int), .int .i64 x, .own 2 Places.length]]⟩, some ⟨118, List.map R118 Places⟩]⟩) h (fun h => ?_) (fun j h => ?_)
     ·
      refine T_keep (kc 0 rfl <| kc 3 rfl <| kc 5 rfl <| kc 7 rfl <| kc 8 rfl <| kc 9 rfl <| kc 13 rfl <| kc 14 rfl <| kc 15 rfl <| kc 20 rfl <| kc 21 rfl <| kn) rfl ?_
      refine T_seq (T_reg ?_)
      refine R_q _ rfl (v_fieldR (ov rfl) tF25_2) ?_
      refine R_q _ rfl (v_loadS_r (ov rfl) tS22 rfl) ?_
      refine R_q _ rfl (v_len (slv_sl (ov rfl) tZ_113) tL22 (len_map _ _)) ?_
      refine R_q _ rfl (v_move (ov rfl)) ?_
      refine R_nil ?_
      refine T_block ?_
      obtain ⟨r3, hl3, ho3⟩ := bndL h
      refine T_loopG _ (t2 fun Places2 i3 => ⟨[(0, .int .i64 number), (3, .rp [.str p.Name, .int .i64 p.Kind, .sl 113 (List.map R113 p.Parts), .int .i64 p.First, .int .i64 p.Every, .int .i64 p.Times, .int .i64 p.Step, .sl 9 (List.map R9 p.Names)] 0), (5, .own 0 out4.length), (7, .int .i64 x), (8, .int .i64 i2), (9, .ptr 1 1 0 0), (13, .sl 3 (List.map R3 y)), (14, .int .i64 (y.length : Int)), (15, .int .i64 i), (20, .int .i64 p.Times), (21, .int .i64 i2), (30, .sl 113 (List.map R113 p.Parts)), (31, .int .i64 (p.Parts.length : Int)), (32, .int .i64 i3)], [some ⟨87, List.map R87 out4⟩, some ⟨87, [[.int .i64 number, .int .i64 (out4.length : Int), .int .i64 x, .own 2 Places2.length]]⟩, some ⟨118, List.map R118 Places2⟩]⟩) _ hl3 (Ent.sel [some 0, some 1, none] (sd 0 rfl rfl <| sd 3 rfl rfl <| sr 5 rfl (.own _ rfl) <| sd 7 rfl rfl <| sd 8 rfl rfl <| sr 9 rfl (.ptr _ _ _ rfl) <| sd 13 rfl rfl <| sd 14 rfl rfl <| sd 15 rfl rfl <| sd 20 rfl rfl <| sd 21 rfl rfl <| sd 30 rfl rfl <| sd 31 rfl rfl <| sd 32 rfl rfl <| sn) (.cons rfl (roM D87) <| .cons rfl (ro1 (by exact tZ_87.symm) (rlc (.dat rfl) <| rlc (.dat rfl) <| rlc (.dat rfl) <| rlc (.row rfl) <| rln)) <| .row 118 <| .nil) rfl rfl) (fun n3 s3 h => ?_)
      obtain ⟨Places2, i3⟩ := s3
      replace h := t2i h
      refine t2T ?_
      unfold layout_cellsOf_L3 at h
      refine T_seq (T_reg ?_)
      refine R_q _ rfl (v_lss (ov rfl) (ov rfl)) ?_
      refine R_nil ?_
      refine T_seq ?_
      refine T_if h rfl (fun b33 h => ?_) (fun b33 h => ?_)
      ·
       refine T_skip ?_
       refine T_seq ?_
       refine T_block ?_
       refine T_keep (kc 0 rfl <| kc 3 rfl <| kc 5 rfl <| kc 7 rfl <| kc 8 rfl <| kc 9 rfl <| kc 13 rfl <| kc 14 rfl <| kc 15 rfl <| kc 20 rfl <| kc 21 rfl <| kc 30 rfl <| kc 31 rfl <| kc 32 rfl <| kn) rfl ?_
       refine T_seq (T_reg ?_)
       obtain ⟨x2, h_x2, h⟩ := bnd h
       refine R_q _ rfl (v_ixSG (ov rfl) (ov rfl) tL22 h_x2) ?_
       refine R_q _ rfl (v_loadA_r (ov rfl) tA113 rfl rfl) ?_
       refine R_w _ _ rfl (w_alloc (row := [_, _, _, _]) 3 rfl tZ113 rfl tZ_113) ?_
       refine R_w _ _ rfl (w_store (ov rfl) (ov rfl) (cells_agg tA113 rfl) rfl rfl rfl (Nat.le_of_ble_eq_true rfl) (cell1_all rfl) rfl) ?_
       refine R_nil ?_
       refine T_keep (kc 0 rfl <| kc 3 rfl <| kc 5 rfl <| kc 7 rfl <| kc 8 rfl <| kc 9 rfl <| kc 11 rfl <| kc 13 rfl <| kc 14 rfl <| kc 15 rfl <| kc 20 rfl <| kc 21 rfl <| kc 30 rfl <| kc 31 rfl <| kc 32 rfl <| kn) rfl ?_
       refine T_draw (cw := md0) (by kernel_rfl) ?_
       refine D_q0 0 _ rfl (by kernel_rfl) rfl rfl (v_fieldP (ov rfl) rfl rfl tF87_3) ?_
       refine D_q0 1 _ rfl (by kernel_rfl) rfl rfl (v_loadS (ov rfl) rfl rfl rfl tS85 rfl) ?_
       refine D_q0 2 _ rfl (by kernel_rfl) rfl rfl (v_loadA_r (ov rfl) tA25 rfl rfl) ?_
       refine D_q0 3 _ rfl (by kernel_rfl) rfl rfl (v_loadA (ov rfl) rfl rfl rfl tA113 rfl rfl) ?_
       refine D_q0 4 _ rfl (by kernel_rfl) rfl rfl (v_move (ov rfl)) ?_
       refine D_q0 5 _ rfl (by kernel_rfl) rfl rfl (v_move (ov rfl)) ?_
       obtain ⟨y2, h_y2, h⟩ := bnd h
       refine D_q0 6 _ rfl (by kernel_rfl) rfl rfl (v_call (ok_layout_placeOf h_y2) (.cons (ov rfl) (.aggB rfl) <| .cons (ov rfl) (.aggB rfl) <| .cons (ov rfl) (.b rfl) <| .cons (ov rfl) (.b rfl) <| .nil)) ?_
       refine D_q0 7 (.sl 118 (List.map R118 ([y2] : List api_Place))) rfl (by kernel_rfl) rfl rfl (v_lit tL85 (.cons (cva (ov rfl)) rfl (pwD rfl) <| .nil) rfl rfl) ?_
       obtain ⟨l, h_l, h⟩ := bnd h
       refine D_one 8 _ _ rfl (by kernel_rfl) rfl rfl (fun h => by cases h) (fun h => by cases h) (w_appendG (ov rfl) (slv_sl (ov rfl) tZ_118) tL85 rfl rfl rfl (fun _ => cell1_all rfl) rfl h_l) ?_
       refine D_q0 9 _ rfl (by kernel_rfl) rfl rfl (v_fieldP (ov rfl) rfl rfl tF87_3) ?_
       refine D_one 10 _ _ rfl (by kernel_rfl) rfl rfl (fun h => by cases h) (fun h => by cases h) (w_store (ov rfl) (ov rfl) (cells_scal tS85) rfl rfl rfl (Nat.le_of_ble_eq_true rfl) (cell1_all rfl) rfl) ?_
       refine D_done (by kernel_rfl) ?_
       refine T_keep (kc 0 rfl <| kc 3 rfl <| kc 5 rfl <| kc 7 rfl <| kc 8 rfl <| kc 9 rfl <| kc 13 rfl <| kc 14 rfl <| kc 15 rfl <| kc 20 rfl <| kc 21 rfl <| kc 30 rfl <| kc 31 rfl <| kc 32 rfl <| kn) rfl ?_
       refine T_reg ?_
       refine R_q _ rfl (v_add (ov rfl) (ov rfl) rfl) ?_
       refine R_q _ rfl (v_move (ov rfl)) ?_
       refine R_nil ?_
       exact ⟨(l, (i64 (i3 + 1))), h, Ent.sel [some 0, some 1, some 2] (sd 0 rfl rfl <| sd 3 rfl rfl <| sr 5 rfl (.own _ rfl) <| sd 7 rfl rfl <| sd 8 rfl rfl <| sr 9 rfl (.ptr _ _ _ rfl) <| sd 13 rfl rfl <| sd 14 rfl rfl <| sd 15 rfl rfl <| sd 20 rfl rfl <| sd 21 rfl rfl <| sd 30 rfl rfl <| sd 31 rfl rfl <| sd 32 rfl rfl <| sn) (.cons rfl (roM D87) <| .cons rfl (ro1 (by exact tZ_87.symm) (rlc (.dat rfl) <| rlc (.dat rfl) <| rlc (.dat rfl) <| rlc (.own _ rfl) <| rln)) <| .cons rfl (roM D118) <| .nil) rfl rfl⟩
      ·
       refine T_exit ?_
       rw [lx h] at ho3
       replace h := ho3
       exact ⟨Places2, h, Ent.sel [some 0, some 1, some 2] (sd 0 rfl rfl <| sd 3 rfl rfl <| sr 5 rfl (.own _ rfl) <| sd 7 rfl rfl <| sr 9 rfl (.ptr _ _ _ rfl) <| sd 13 rfl rfl <| sd 14 rfl rfl <| sd 15 rfl rfl <| sd 20 rfl rfl <| sd 21 rfl rfl <| sn) (.cons rfl (roM D87) <| .cons rfl (ro1 (by exact tZ_87.symm) (rlc (.dat rfl) <| rlc (.dat rfl) <| rlc (.dat rfl) <| rlc (.own _ rfl) <| rln)) <| .cons rfl (roM D118) <| .nil) rfl rfl⟩
     ·
      obtain ⟨Places, rfl⟩ : ∃ x, x = j := ⟨_, rfl⟩
      replace h := t1i h
      refine t1T ?_
      refine T_reg ?_
      refine R_q _ rfl (v_move (ov rfl)) ?_
      refine R_q _ rfl (v_loadA (ov rfl) rfl rfl rfl tA87 rfl rfl) ?_
      refine R_ent (Ent.sel [some 0, some 1, none] (sd 0 rfl rfl <| sd 3 rfl rfl <| sr 5 rfl (.own (r' := 0) _ rfl) <| sd 7 rfl rfl <| sr 9 rfl (.ptr (r' := 1) _ _ _ rfl) <| sd 13 rfl rfl <| sd 14 rfl rfl <| sd 15 rfl rfl <| sd 20 rfl rfl <| sd 21 rfl rfl <| sr 47 rfl (.own (r' := 0) _ rfl) <| sr 48 rfl (rAgg (rlc (.dat rfl) <| rlc (.dat rfl) <| rlc (.dat rfl) <| rlc (frzM rfl rfl rfl D118) <| rln)) <| sn) (.cons rfl (roM D87) <| .cons rfl (ro1 (by exact tZ_87.symm) (rlc (.dat rfl) <| rlc (.dat rfl) <| rlc (.dat rfl) <| rlc (frzM rfl rfl rfl D118) <| rln)) <| .row 118 <| .nil) rfl rfl) ?_
      refine R_q (.sl 87 (List.map R87 ([(api_Cell.mk number (out4.length : Int) x Places)] : List api_Cell))) rfl (v_lit tL45 (.cons (cva (ov rfl)) rfl (pwD rfl) <| .nil) rfl rfl) ?_
      obtain ⟨l2, h_l2, h⟩ := bnd h
      refine R_w _ _ rfl (w_appendG (ov rfl) (slv_sl (ov rfl) tZ_87) tL45 rfl rfl rfl (fun _ => cell1_all rfl) rfl h_l2) ?_
      refine R_q _ rfl (v_assign (ov rfl)) ?_
      refine R_nil ?_
      refine T_keep (kc 0 rfl <| kc 3 rfl <| kc 5 rfl <| kc 7 rfl <| kc 13 rfl <| kc 14 rfl <| kc 15 rfl <| kc 20 rfl <| kc 21 rfl <| kn) rfl ?_
      refine T_reg ?_
      refine R_q _ rfl (v_add (ov rfl) (ov rfl) rfl) ?_
      refine R_q _ rfl (v_move (ov rfl)) ?_
      refine R_nil ?_
      exact ⟨(l2, (i64 (i2 + 1))), h, Ent.sel [some 0] (sd 0 rfl rfl <| sd 3 rfl rfl <| sr 5 rfl (.own _ rfl) <| sd 7 rfl rfl <| sd 13 rfl rfl <| sd 14 rfl rfl <| sd 15 rfl rfl <| sd 20 rfl rfl <| sd 21 rfl rfl <| sn) (.cons rfl (roM D87) <| .nil) rfl rfl⟩
    ·
     refine T_exit ?_
     rw [lx h] at ho2
     replace h := ho2
     exact ⟨out4, h, Ent.sel [some 0] (sd 0 rfl rfl <| sd 3 rfl rfl <| sr 5 rfl (.own _ rfl) <| sd 13 rfl rfl <| sd 14 rfl rfl <| sd 15 rfl rfl <| sn) (.cons rfl (roM D87) <| .nil) rfl rfl⟩
   ·
    obtain ⟨out3, rfl⟩ : ∃ x, x = j := ⟨_, rfl⟩
    replace h := t1i h
    refine t1T ?_
    refine T_reg ?_
    refine R_q _ rfl (v_add (ov rfl) (ov rfl) rfl) ?_
    refine R_q _ rfl (v_move (ov rfl)) ?_
    refine R_nil ?_
    exact ⟨(out3, (i64 (i + 1))), h, Ent.sel [some 0] (sd 0 rfl rfl <| sd 3 rfl rfl <| sr 5 rfl (.own _ rfl) <| sd 13 rfl rfl <| sd 14 rfl rfl <| sd 15 rfl rfl <| sn) (.cons rfl (roM D87) <| .nil) rfl rfl⟩
  ·
   refine T_exit ?_
   rw [lx h] at ho1
   replace h := ho1
   exact ⟨out2, h, Ent.sel [some 0] (sr 5 rfl (.own _ rfl) <| sn) (.cons rfl (roM D87) <| .nil) rfl rfl⟩
 ·
  obtain ⟨out, rfl⟩ : ∃ x, x = j := ⟨_, rfl⟩
  replace h := t1i h
  refine t1T ?_
  refine T_seq (T_reg ?_)
  refine R_q _ rfl (v_move (ov rfl)) ?_
  refine R_q _ rfl (v_assign (ov rfl)) ?_
  refine R_nil ?_
  obtain rfl := rt (v := out) h
  refine T_ret (retq ?_ (.one (.tmp rfl (View.ownM rfl rfl D87))))
  rfl

theorem ok_layout_bitsAt {x : api_Place} {r : (List layout_bit)} (h : layout_bitsAt x = some r) :
  CSpec Tryd.prog gl0 69 [.agg [.int .i64 x.Frame, .int .i64 x.Word, .int .i64 x.Low, .int .i64 x.Bits]] (.sl 123 (List.map R123 r)) := by
 unfold layout_bitsAt at h
 replace h := bnd0 h
 refine spec_of (by kernel_rfl) Tryd.func69 rfl rfl ?_
 intro w0 A
 refine T_seq (T_reg ?_)
 refine R_q _ rfl (v_boxD (cva (ov rfl)) rfl tZ_118 rfl) ?_
 refine R_q _ rfl (v_assign (ov rfl)) ?_
 refine R_nil ?_
 refine T_keep (kc 1 rfl <| kn) rfl ?_
 refine T_seq (T_reg ?_)
 refine R_q _ rfl (v_assign (ov rfl)) ?_
 refine R_nil ?_
 refine T_joinG id (t1 fun out => ⟨[(3, .own 0 out.length)], [some ⟨123, List.map R123 out⟩]⟩) h (fun h => ?_) (fun j h => ?_)
 ·
  refine T_seq (T_reg ?_)
  refine R_q _ rfl (v_fieldR (ov rfl) tF118_3) ?_
  refine R_q _ rfl (v_loadS_r (ov rfl) tS3 rfl) ?_
  refine R_q _ rfl (v_move (ov rfl)) ?_
  refine R_nil ?_
  refine T_block ?_
  obtain ⟨r1, hl1, ho1⟩ := bndL h
  refine T_loopG _ (t2 fun out2 i => ⟨[(1, .rp [.int .i64 x.Frame, .int .i64 x.Word, .int .i64 x.Low, .int .i64 x.Bits] 0), (3, .own 0 out2.length), (6, .int .i64 x.Bits), (7, .int .i64 i)], [some ⟨123, List.map R123 out2⟩]⟩) _ hl1 (Ent.sel [none] (sd 1 rfl rfl <| sr 3 rfl (.row rfl) <| sd 6 rfl rfl <| sd 7 rfl rfl <| sn) (.row 123 <| .nil) rfl rfl) (fun n1 s1 h => ?_)
  obtain ⟨out2, i⟩ := s1
  replace h := t2i h
  refine t2T ?_
  unfold layout_bitsAt_L1 at h
  refine T_seq (T_reg ?_)
  refine R_q _ rfl (v_lss (ov rfl) (ov rfl)) ?_
  refine R_nil ?_
  refine T_seq ?_
  refine T_if h rfl (fun b8 h => ?_) (fun b8 h => ?_)
  ·
   refine T_skip ?_
   refine T_seq ?_
   refine T_block ?_
   refine T_keep (kc 1 rfl <| kc 3 rfl <| kc 6 rfl <| kc 7 rfl <| kn) rfl ?_
   refine T_seq (T_reg ?_)
   refine R_q _ rfl (v_move (ov rfl)) ?_
   refine R_q _ rfl (v_assign (ov rfl)) ?_
   refine R_nil ?_
   refine T_keep (kc 1 rfl <| kc 3 rfl <| kc 4 rfl <| kc 6 rfl <| kc 7 rfl <| kn) rfl ?_
   refine T_reg ?_
   refine R_q _ rfl (v_move (ov rfl)) ?_
   refine R_q _ rfl (v_fieldR (ov rfl) tF118_0) ?_
   refine R_q _ rfl (v_loadS_r (ov rfl) tS3 rfl) ?_
   refine R_q _ rfl (v_fieldR (ov rfl) tF118_1) ?_
   refine R_q _ rfl (v_loadS_r (ov rfl) tS3 rfl) ?_
   refine R_q _ rfl (v_fieldR (ov rfl) tF118_2) ?_
   refine R_q _ rfl (v_loadS_r (ov rfl) tS3 rfl) ?_
   refine R_q _ rfl (v_move (ov rfl)) ?_
   refine R_q _ rfl (v_add (ov rfl) (ov rfl) rfl) ?_
   refine R_q _ rfl (v_build (ys := [_, _, _]) tPL123 tHA123 tZ123 (.cons (cvs (ov rfl) (cell1_b rfl)) <| .cons (cvs (ov rfl) (cell1_b rfl)) <| .cons (cvs (ov rfl) (cell1_b rfl)) <| .nil) rfl) ?_
   refine R_q (.sl 123 (List.map R123 ([(layout_bit.mk x.Frame x.Word (i64 (x.Low + i)))] : List layout_bit))) rfl (v_lit tL120 (.cons (cva (ov rfl)) rfl (pwD rfl) <| .nil) rfl rfl) ?_
   obtain ⟨l, h_l, h⟩ := bnd h
   refine R_w _ _ rfl (w_appendG (ov rfl) (slv_sl (ov rfl) tZ_123) tL120 rfl rfl rfl (fun _ => cell1_all rfl) rfl h_l) ?_
   refine R_q _ rfl (v_assign (ov rfl)) ?_
   refine R_nil ?_
   refine T_keep (kc 1 rfl <| kc 3 rfl <| kc 6 rfl <| kc 7 rfl <| kn) rfl ?_
   refine T_reg ?_
   refine R_q _ rfl (v_add (ov rfl) (ov rfl) rfl) ?_
   refine R_q _ rfl (v_move (ov rfl)) ?_
   refine R_nil ?_
   exact ⟨(l, (i64 (i + 1))), h, Ent.sel [some 0] (sd 1 rfl rfl <| sr 3 rfl (.own _ rfl) <| sd 6 rfl rfl <| sd 7 rfl rfl <| sn) (.cons rfl (roM D123) <| .nil) rfl rfl⟩
  ·
   refine T_exit ?_
   rw [lx h] at ho1
   replace h := ho1
   exact ⟨out2, h, Ent.sel [some 0] (sr 3 rfl (.own _ rfl) <| sn) (.cons rfl (roM D123) <| .nil) rfl rfl⟩
 ·
  obtain ⟨out, rfl⟩ : ∃ x, x = j := ⟨_, rfl⟩
  replace h := t1i h
  refine t1T ?_
  refine T_seq (T_reg ?_)
  refine R_q _ rfl (v_move (ov rfl)) ?_
  refine R_q _ rfl (v_assign (ov rfl)) ?_
  refine R_nil ?_
  obtain rfl := rt (v := out) h
  refine T_ret (retq ?_ (.one (.tmp rfl (View.ownM rfl rfl D123))))
  rfl

theorem ok_layout_take {taken : List (layout_bit × Int)} {owner : Int} {l : List api_Place} {r : Bool × (List (layout_bit × Int))} (h : layout_take taken owner l = some r) :
  GSpec Tryd.prog gl0 39 [.mref 0 1, .int .i64 owner, .sl 118 (List.map R118 l)] [some ⟨83, [[.mcon (List.map (mrow FK123 FV3) taken)]]⟩] (.bool r.1) [some ⟨83, [[.mcon (List.map (mrow FK123 FV3) r.2)]]⟩] := by
 unfold layout_take at h
 replace h := bnd0 h
 refine gspec_of (by kernel_rfl) Tryd.func39 rfl rfl ?_
 intro w0 A W φ0
 refine T_seq (T_reg ?_)
 refine R_q _ rfl (v_assign (ov rfl)) ?_
 refine R_nil ?_
 refine T_joinG (fun j => (.inr j)) (t1 fun o => ⟨[], [some ⟨83, [[.mcon (List.map (mrow FK123 FV3) o)]]⟩]⟩) h (fun h => ?_) (fun j h => ?_)
 ·
  refine T_keep (kc 0 rfl <| kc 1 rfl <| kc 2 rfl <| kn) rfl ?_
  refine T_seq (T_reg ?_)
  refine R_q _ rfl (v_move (ov rfl)) ?_
  refine R_q _ rfl (v_len (slv_sl (ov rfl) tZ_118) tL85 (len_map _ _)) ?_
  refine R_q _ rfl (v_move (ov rfl)) ?_
  refine R_nil ?_
  refine T_block ?_
  obtain ⟨r1, hl1, ho1⟩ := bndL h
  refine T_loopG _ (t2 fun o2 i => ⟨[(0, .mref 0 1), (1, .int .i64 owner), (13, .sl 118 (List.map R118 l)), (14, .int .i64 (l.length : Int)), (15, .int .i64 i)], [some ⟨83, [[.mcon (List.map (mrow FK123 FV3) o2)]]⟩]⟩) _ hl1 (Ent.sel [some 0] (sr 0 rfl (.mref _ rfl) <| sd 1 rfl rfl <| sd 13 rfl rfl <| sd 14 rfl rfl <| sd 15 rfl rfl <| sn) (.cons rfl (roMap (fk := FK123) (fv := FV3) (m := taken) tZ_83 (fun _ => rAgg (rld rfl)) (fun _ => .ren (.dat rfl))) <| .nil) rfl rfl) (fun n1 s1 h => ?_)
  obtain ⟨o2, i⟩ := s1
  replace h := t2i h
  refine t2T ?_
  unfold layout_take_L1 at h
  refine T_seq (T_reg ?_)
  refine R_q _ rfl (v_lss (ov rfl) (ov rfl)) ?_
  refine R_nil ?_
  refine T_seq ?_
  refine T_if h rfl (fun b16 h => ?_) (fun b16 h => ?_)
  ·
   refine T_skip ?_
   refine T_joinG (fun j => (.inr j)) (t1 fun o3 => ⟨[(0, .mref 0 1), (1, .int .i64 owner), (13, .sl 118 (List.map R118 l)), (14, .int .i64 (l.length : Int)), (15, .int .i64 i)], [some ⟨83, [[.mcon (List.map (mrow FK123 FV3) o3)]]⟩]⟩) h (fun h => ?_) (fun j h => ?_)
   ·
    refine T_block ?_
    refine T_keep (kc 0 rfl <| kc 1 rfl <| kc 13 rfl <| kc 14 rfl <| kc 15 rfl <| kn) rfl ?_
    refine T_seq (T_reg ?_)
    obtain ⟨x, h_x, h⟩ := bnd h
    refine R_q _ rfl (v_ixSG (ov rfl) (ov rfl) tL85 h_x) ?_
    refine R_q _ rfl (v_loadA_r (ov rfl) tA118 rfl rfl) ?_
    refine R_w _ _ rfl (w_alloc (row := [_, _, _, _]) 1 rfl tZ118 rfl tZ_118) ?_
    refine R_w _ _ rfl (w_store (ov rfl) (ov rfl) (cells_agg tA118 rfl) rfl rfl rfl (Nat.le_of_ble_eq_true rfl) (cell1_all rfl) rfl) ?_
    refine R_nil ?_
    refine T_keep (kc 0 rfl <| kc 1 rfl <| kc 8 rfl <| kc 13 rfl <| kc 14 rfl <| kc 15 rfl <| kn) rfl ?_
    refine T_seq (T_reg ?_)
    refine R_q _ rfl (v_loadA (ov rfl) rfl rfl rfl tA118 rfl rfl) ?_
    obtain ⟨y, h_y, h⟩ := bnd h
    refine R_q _ rfl (v_call (ok_layout_bitsAt h_y) (.cons (ov rfl) (.aggB rfl) <| .nil)) ?_
    refine R_q _ rfl (v_len (slv_sl (ov rfl) tZ_123) tL120 (len_map _ _)) ?_
    refine R_q _ rfl (v_move (ov rfl)) ?_
    refine R_nil ?_
    refine T_block ?_
    obtain ⟨r2, hl2, ho2⟩ := bndL h
    refine T_loopG _ (t2 fun o4 i2 => ⟨[(0, .mref 0 1), (1, .int .i64 owner), (13, .sl 118 (List.map R118 l)), (14, .int .i64 (l.length : Int)), (15, .int .i64 i), (20, .sl 123 (List.map R123 y)), (21, .int .i64 (y.length : Int)), (22, .int .i64 i2)], [some ⟨83, [[.mcon (List.map (mrow FK123 FV3) o4)]]⟩]⟩) _ hl2 (Ent.sel [some 0] (sr 0 rfl (.mref _ rfl) <| sd 1 rfl rfl <| sd 13 rfl rfl <| sd 14 rfl rfl <| sd 15 rfl rfl <| sd 20 rfl rfl <| sd 21 rfl rfl <| sd 22 rfl rfl <| sn) (.cons rfl (roMap (fk := FK123) (fv := FV3) (m := o2) tZ_83 (fun _ => rAgg (rld rfl)) (fun _ => .ren (.dat rfl))) <| .nil) rfl rfl) (fun n2 s2 h => ?_)
    obtain ⟨o4, i2⟩ := s2
    replace h := t2i h
    refine t2T ?_
    unfold layout_take_L2 at h
    refine T_seq (T_reg ?_)
    refine R_q _ rfl (v_lss (ov rfl) (ov rfl)) ?_
    refine R_nil ?_
    refine T_seq ?_
    refine T_if h rfl (fun b23 h => ?_) (fun b23 h => ?_)
    ·
     refine T_skip ?_
     refine T_seq ?_
     refine T_block ?_
     refine T_keep (kc 0 rfl <| kc 1 rfl <| kc 13 rfl <| kc 14 rfl <| kc 15 rfl <| kc 20 rfl <| kc 21 rfl <| kc 22 rfl <| kn) rfl ?_
     refine T_seq (T_reg ?_)
     obtain ⟨x2, h_x2, h⟩ := bnd h
     refine R_q _ rfl (v_ixSG (ov rfl) (ov rfl) tL120 h_x2) ?_
     refine R_q _ rfl (v_loadA_r (ov rfl) tA123 rfl rfl) ?_
     refine R_w _ _ rfl (w_alloc (row := [_, _, _]) 1 rfl tZ123 rfl tZ_123) ?_
     refine R_w _ _ rfl (w_store (ov rfl) (ov rfl) (cells_agg tA123 rfl) rfl rfl rfl (Nat.le_of_ble_eq_true rfl) (cell1_all rfl) rfl) ?_
     refine R_nil ?_
     refine T_seq ?_
     refine T_keep (kc 0 rfl <| kc 1 rfl <| kc 10 rfl <| kc 13 rfl <| kc 14 rfl <| kc 15 rfl <| kc 20 rfl <| kc 21 rfl <| kc 22 rfl <| kn) rfl ?_
     refine T_seq (T_reg ?_)
     refine R_q _ rfl (v_move (ov rfl)) ?_
     refine R_q _ rfl (v_loadA (ov rfl) rfl rfl rfl tA123 rfl rfl) ?_
     obtain ⟨o5, h_o5, h⟩ := bnd h
     refine R_q _ rfl (v_lk2 (m := o4) (fk := FK123) (fv := FV3) (k := x2) (z0 := 0) (ov rfl) (ov rfl) tMp83 tKO123 rfl (fun _ => .aggB rfl) (zero_scal tZV3 rfl) (fun _ _ => rfl) h_o5) ?_
     refine R_q _ rfl (v_move (ov rfl)) ?_
     refine R_q _ rfl (v_extract (ov rfl) rfl) ?_
     refine R_q _ rfl (v_extract (ov rfl) rfl) ?_
     refine R_q _ rfl (v_assign (ov rfl)) ?_
     refine R_q _ rfl (v_assign (ov rfl)) ?_
     refine R_nil ?_
     refine T_keep (kc 0 rfl <| kc 1 rfl <| kc 10 rfl <| kc 12 rfl <| kc 13 rfl <| kc 14 rfl <| kc 15 rfl <| kc 20 rfl <| kc 21 rfl <| kc 22 rfl <| kn) rfl ?_
     refine T_seq (T_reg ?_)
     refine R_q _ rfl (v_move (ov rfl)) ?_
     refine R_nil ?_
     refine T_keep (kc 0 rfl <| kc 1 rfl <| kc 10 rfl <| kc 13 rfl <| kc 14 rfl <| kc 15 rfl <| kc 20 rfl <| kc 21 rfl <| kc 22 rfl <| kc 32 rfl <| kn) rfl ?_
     refine T_if h rfl (fun b32 h => ?_) (fun b32 h => ?_)
     ·
      refine T_keep (kn) rfl ?_
      refine T_seq (T_reg ?_)
      refine R_q _ rfl (v_assign (ov rfl)) ?_
      refine R_nil ?_
      rw [lx h] at ho2
      replace h := ho2
      rw [lx h] at ho1
      replace h := ho1
      obtain rfl := rt (v := (false, o4)) h
      refine T_ret ?_
      exact retg [some 0] rfl (.cons (.tmp rfl) <| .nil) (.cons rfl (roMap (fk := FK123) (fv := FV3) (m := o4) tZ_83 (fun _ => rAgg (rld rfl)) (fun _ => .ren (.dat rfl))) <| .nil) rfl rfl (.dat rfl)
     ·
      refine T_skip ?_
      refine T_keep (kc 0 rfl <| kc 1 rfl <| kc 10 rfl <| kc 13 rfl <| kc 14 rfl <| kc 15 rfl <| kc 20 rfl <| kc 21 rfl <| kc 22 rfl <| kn) rfl ?_
      refine T_reg ?_
      refine R_q _ rfl (v_move (ov rfl)) ?_
      refine R_q _ rfl (v_loadA (ov rfl) rfl rfl rfl tA123 rfl rfl) ?_
      refine R_q _ rfl (v_move (ov rfl)) ?_
      refine R_w _ _ rfl (w_mapUpd (m := o4) (fk := FK123) (fv := FV3) (k := x2) (v := owner) (ov rfl) (ov rfl) (ov rfl) tMp83 tKO123 rfl (fun _ => .aggB rfl)) ?_
      refine R_nil ?_
      refine T_keep (kc 0 rfl <| kc 1 rfl <| kc 13 rfl <| kc 14 rfl <| kc 15 rfl <| kc 20 rfl <| kc 21 rfl <| kc 22 rfl <| kn) rfl ?_
      refine T_reg ?_
      refine R_q _ rfl (v_add (ov rfl) (ov rfl) rfl) ?_
      refine R_q _ rfl (v_move (ov rfl)) ?_
      refine R_nil ?_
      exact ⟨((mput kq_layout_bit o4 x2 owner), (i64 (i2 + 1))), h, Ent.sel [some 0] (sr 0 rfl (.mref _ rfl) <| sd 1 rfl rfl <| sd 13 rfl rfl <| sd 14 rfl rfl <| sd 15 rfl rfl <| sd 20 rfl rfl <| sd 21 rfl rfl <| sd 22 rfl rfl <| sn) (.cons rfl (roMap (fk := FK123) (fv := FV3) (m := (mput kq_layout_bit o4 x2 owner)) tZ_83 (fun _ => rAgg (rld rfl)) (fun _ => .ren (.dat rfl))) <| .nil) rfl rfl⟩
    ·
     refine T_exit ?_
     rw [lx h] at ho2
     replace h := ho2
     exact ⟨o4, h, Ent.sel [some 0] (sr 0 rfl (.mref _ rfl) <| sd 1 rfl rfl <| sd 13 rfl rfl <| sd 14 rfl rfl <| sd 15 rfl rfl <| sn) (.cons rfl (roMap (fk := FK123) (fv := FV3) (m := o4) tZ_83 (fun _ => rAgg (rld rfl)) (fun _ => .ren (.dat rfl))) <| .nil) rfl rfl⟩
   ·
    replace h := elr h
    obtain ⟨o3, rfl⟩ : ∃ x, x = j := ⟨_, rfl⟩
    replace h := t1i h
    refine t1T ?_
    refine T_reg ?_
    refine R_q _ rfl (v_add (ov rfl) (ov rfl) rfl) ?_
    refine R_q _ rfl (v_move (ov rfl)) ?_
    refine R_nil ?_
    exact ⟨(o3, (i64 (i + 1))), h, Ent.sel [some 0] (sr 0 rfl (.mref _ rfl) <| sd 1 rfl rfl <| sd 13 rfl rfl <| sd 14 rfl rfl <| sd 15 rfl rfl <| sn) (.cons rfl (roMap (fk := FK123) (fv := FV3) (m := o3) tZ_83 (fun _ => rAgg (rld rfl)) (fun _ => .ren (.dat rfl))) <| .nil) rfl rfl⟩
  ·
   refine T_exit ?_
   rw [lx h] at ho1
   replace h := ho1
   exact ⟨o2, h, Ent.sel [some 0] (sn) (.cons rfl (roMap (fk := FK123) (fv := FV3) (m := o2) tZ_83 (fun _ => rAgg (rld rfl)) (fun _ => .ren (.dat rfl))) <| .nil) rfl rfl⟩
 ·
  replace h := elr h
  obtain ⟨o, rfl⟩ : ∃ x, x = j := ⟨_, rfl⟩
  replace h := t1i h
  refine t1T ?_
  refine T_seq (T_reg ?_)
  refine R_q _ rfl (v_assign (ov rfl)) ?_
  refine R_nil ?_
  obtain rfl := rt (v := (true, o)) h
  refine T_ret ?_
  exact retg [some 0] rfl (.cons (.tmp rfl) <| .nil) (.cons rfl (roMap (fk := FK123) (fv := FV3) (m := o) tZ_83 (fun _ => rAgg (rld rfl)) (fun _ => .ren (.dat rfl))) <| .nil) rfl rfl (.dat rfl)

theorem ok_layout_CheckParam {p : api_Param} {r : Int} (h : layout_CheckParam p = some r) :
  CSpec Tryd.prog gl0 12 [.agg [.str p.Name, .int .i64 p.Kind, .sl 113 (List.map R113 p.Parts), .int .i64 p.First, .int .i64 p.Every, .int .i64 p.Times, .int .i64 p.Step, .sl 9 (List.map R9 p.Names)]] (.int .i64 r) := by
 unfold layout_CheckParam at h
 replace h := bnd0 h
 refine spec_of (by kernel_rfl) Tryd.func12 rfl rfl ?_
 intro w0 A
 refine T_seq (T_reg ?_)
 refine R_q _ rfl (v_boxD (cva (ov rfl)) rfl tZ_25 rfl) ?_
 refine R_q _ rfl (v_assign (ov rfl)) ?_
 refine R_nil ?_
 refine T_seq ?_
 refine T_keep (kc 1 rfl <| kn) rfl ?_
 refine T_seq (T_reg ?_)
 refine R_q _ rfl (v_fieldR (ov rfl) tF25_0) ?_
 refine R_q _ rfl (v_loadS_r (ov rfl) tS9 rfl) ?_
 obtain ⟨y, h_y, h⟩ := bnd h
 refine R_q _ rfl (v_call (ok_layout_isName h_y) (.cons (ov rfl) (.b rfl) <| .nil)) ?_
 refine R_q _ rfl (v_not (ov rfl)) ?_
 refine R_nil ?_
 refine T_keep (kc 1 rfl <| kc 12 rfl <| kn) rfl ?_
 refine T_if h rfl (fun b12 h => ?_) (fun b12 h => ?_)
 ·
  refine T_keep (kn) rfl ?_
  refine T_seq (T_reg ?_)
  refine R_q _ rfl (v_assign (ov rfl)) ?_
  refine R_nil ?_
  obtain rfl := rt (v := 8) h
  refine T_ret (retq ?_ (.one (.tmp rfl (Dat.view (.b rfl)))))
  rfl
 ·
  refine T_skip ?_
  refine T_seq ?_
  refine T_keep (kc 1 rfl <| kn) rfl ?_
  refine T_seq (T_reg ?_)
  refine R_q _ rfl (v_fieldR (ov rfl) tF25_1) ?_
  refine R_q _ rfl (v_loadS_r (ov rfl) tS3 rfl) ?_
  obtain ⟨y2, h_y2, h⟩ := bnd h
  refine R_q _ rfl (v_call (ok_layout_within h_y2) (.cons (ov rfl) (.b rfl) <| .cons (ov rfl) (.b rfl) <| .cons (ov rfl) (.b rfl) <| .nil)) ?_
  refine R_q _ rfl (v_not (ov rfl)) ?_
  refine R_nil ?_
  refine T_keep (kc 1 rfl <| kc 16 rfl <| kn) rfl ?_
  refine T_if h rfl (fun b16 h => ?_) (fun b16 h => ?_)
  ·
   refine T_keep (kn) rfl ?_
   refine T_seq (T_reg ?_)
   refine R_q _ rfl (v_assign (ov rfl)) ?_
   refine R_nil ?_
   obtain rfl := rt (v := 7) h
   refine T_ret (retq ?_ (.one (.tmp rfl (Dat.view (.b rfl)))))
   rfl
  ·
   refine T_skip ?_
   refine T_seq ?_
   refine T_keep (kc 1 rfl <| kn) rfl ?_
   refine T_seq (T_reg ?_)
   refine R_q _ rfl (v_loadA_r (ov rfl) tA25 rfl rfl) ?_
   obtain ⟨y3, h_y3, h⟩ := bnd h
   refine R_q _ rfl (v_call (ok_layout_checkParts h_y3) (.cons (ov rfl) (.aggB rfl) <| .nil)) ?_
   refine R_q _ rfl (v_assign (ov rfl)) ?_
   refine R_nil ?_
   refine T_keep (kc 1 rfl <| kc 3 rfl <| kn) rfl ?_
   refine T_seq (T_reg ?_)
   refine R_q _ rfl (v_move (ov rfl)) ?_
   refine R_q _ rfl (v_neq (ov rfl) (ov rfl)) ?_
   refine R_nil ?_
   refine T_keep (kc 1 rfl <| kc 3 rfl <| kc 20 rfl <| kn) rfl ?_
   refine T_if h rfl (fun b20 h => ?_) (fun b20 h => ?_)
   ·
    refine T_keep (kc 3 rfl <| kn) rfl ?_
    refine T_seq (T_reg ?_)
    refine R_q _ rfl (v_move (ov rfl)) ?_
    refine R_q _ rfl (v_assign (ov rfl)) ?_
    refine R_nil ?_
    obtain rfl := rt (v := y3) h
    refine T_ret (retq ?_ (.one (.tmp rfl (Dat.view (.b rfl)))))
    rfl
   ·
    refine T_skip ?_
    refine T_seq ?_
    refine T_keep (kc 1 rfl <| kn) rfl ?_
    refine T_seq (T_reg ?_)
    refine R_q _ rfl (v_loadA_r (ov rfl) tA25 rfl rfl) ?_
    obtain ⟨y4, h_y4, h⟩ := bnd h
    refine R_q _ rfl (v_call (ok_layout_checkNames h_y4) (.cons (ov rfl) (.aggB rfl) <| .nil)) ?_
    refine R_q _ rfl (v_assign (ov rfl)) ?_
    refine R_nil ?_
    refine T_keep (kc 1 rfl <| kc 4 rfl <| kn) rfl ?_
    refine T_seq (T_reg ?_)
    refine R_q _ rfl (v_move (ov rfl)) ?_
    refine R_q _ rfl (v_neq (ov rfl) (ov rfl)) ?_
    refine R_nil ?_
    refine T_keep (kc 1 rfl <| kc 4 rfl <| kc 25 rfl <| kn) rfl ?_
    refine T_if h rfl (fun b25 h => ?_) (fun b25 h => ?_)
    ·
     refine T_keep (kc 4 rfl <| kn) rfl ?_
     refine T_seq (T_reg ?_)
     refine R_q _ rfl (v_move (ov rfl)) ?_
     refine R_q _ rfl (v_assign (ov rfl)) ?_
     refine R_nil ?_
     obtain rfl := rt (v := y4) h
     refine T_ret (retq ?_ (.one (.tmp rfl (Dat.view (.b rfl)))))
     rfl
    ·
     refine T_skip ?_
     refine T_keep (kc 1 rfl <| kn) rfl ?_
     refine T_seq (T_reg ?_)
     refine R_w _ _ rfl (w_makeMap 0 rfl tMp83) ?_
     refine R_q _ rfl (v_assign (ov rfl)) ?_
     refine R_nil ?_
     refine T_keep (kc 1 rfl <| kc 5 rfl <| kn) rfl ?_
     refine T_seq (T_reg ?_)
     refine R_q _ rfl (v_loadA_r (ov rfl) tA25 rfl rfl) ?_
     obtain ⟨y5, h_y5, h⟩ := bnd h
     refine R_q _ rfl (v_call (ok_layout_cellsOf h_y5) (.cons (ov rfl) (.b rfl) <| .cons (ov rfl) (.aggB rfl) <| .nil)) ?_
     refine R_q _ rfl (v_assign (ov rfl)) ?_
     refine R_nil ?_
     refine T_joinG (fun j => (.inr j)) (t0 ⟨[(6, .sl 87 (List.map R87 y5))], []⟩) h (fun h => ?_) (fun j h => ?_)
     ·
      refine T_keep (kc 5 rfl <| kc 6 rfl <| kn) rfl ?_
      refine T_seq (T_reg ?_)
      refine R_q _ rfl (v_move (ov rfl)) ?_
      refine R_q _ rfl (v_len (slv_sl (ov rfl) tZ_87) tL45 (len_map _ _)) ?_
      refine R_q _ rfl (v_move (ov rfl)) ?_
      refine R_nil ?_
      refine T_block ?_
      obtain ⟨r1, hl1, ho1⟩ := bndL h
      refine T_loopG _ (t2 fun taken i => ⟨[(5, .mref 0 1), (6, .sl 87 (List.map R87 y5)), (30, .sl 87 (List.map R87 y5)), (31, .int .i64 (y5.length : Int)), (32, .int .i64 i)], [some ⟨83, [[.mcon (List.map (mrow FK123 FV3) taken)]]⟩]⟩) _ hl1 (Ent.sel [some 0] (sr 5 rfl (.mref _ rfl) <| sd 6 rfl rfl <| sd 30 rfl rfl <| sd 31 rfl rfl <| sd 32 rfl rfl <| sn) (.cons rfl (roMap (fk := FK123) (fv := FV3) (m := ([] : List (layout_bit × Int))) tZ_83 (fun _ => rAgg (rld rfl)) (fun _ => .ren (.dat rfl))) <| .nil) rfl rfl) (fun n1 s1 h => ?_)
      obtain ⟨taken, i⟩ := s1
      replace h := t2i h
      refine t2T ?_
      unfold layout_CheckParam_L1 at h
      refine T_seq (T_reg ?_)
      refine R_q _ rfl (v_lss (ov rfl) (ov rfl)) ?_
      refine R_nil ?_
      refine T_seq ?_
      refine T_if h rfl (fun b33 h => ?_) (fun b33 h => ?_)
      ·
       refine T_skip ?_
       refine T_seq ?_
       refine T_block ?_
       refine T_keep (kc 5 rfl <| kc 6 rfl <| kc 30 rfl <| kc 31 rfl <| kc 32 rfl <| kn) rfl ?_
       refine T_seq (T_reg ?_)
       obtain ⟨x, h_x, h⟩ := bnd h
       refine R_q _ rfl (v_ixSG (ov rfl) (ov rfl) tL45 h_x) ?_
       refine R_q _ rfl (v_loadA_r (ov rfl) tA87 rfl rfl) ?_
       refine R_w _ _ rfl (w_alloc (row := [_, _, _, _]) 1 rfl tZ87 rfl tZ_87) ?_
       refine R_w _ _ rfl (w_store (ov rfl) (ov rfl) (cells_agg tA87 rfl) rfl rfl rfl (Nat.le_of_ble_eq_true rfl) (cell1_all rfl) rfl) ?_
       refine R_nil ?_
       refine T_keep (kc 5 rfl <| kc 6 rfl <| kc 8 rfl <| kc 30 rfl <| kc 31 rfl <| kc 32 rfl <| kn) rfl ?_
       refine T_seq (T_reg ?_)
       refine R_q _ rfl (v_move (ov rfl)) ?_
       refine R_q _ rfl (v_fieldP (ov rfl) rfl rfl tF87_3) ?_
       refine R_q _ rfl (v_loadS (ov rfl) rfl rfl rfl tS85 rfl) ?_
       obtain ⟨y6, h_y6, h⟩ := bnd h
       refine R_w _ _ rfl (w_callG [0] (ok_layout_take h_y6) (.cons (ov rfl) (.mref _ rfl) <| .cons (ov rfl) (.dat rfl) <| .cons (ov rfl) (.dat rfl) <| .nil) (.cons rfl (roMap (fk := FK123) (fv := FV3) (m := taken) tZ_83 (fun _ => rAgg (rld rfl)) (fun _ => .ren (.dat rfl))) <| .nil) rfl (.lent 0 (.inl rfl) rfl (roMap (fk := FK123) (fv := FV3) (m := y6.2) tZ_83 (fun _ => rAgg (rld rfl)) (fun _ => .ren (.dat rfl))) <| .keep rfl rfl <| .nil) rfl rfl (.dat rfl)) ?_
       refine R_q _ rfl (v_not (ov rfl)) ?_
       refine R_nil ?_
       refine T_keep (kc 5 rfl <| kc 6 rfl <| kc 30 rfl <| kc 31 rfl <| kc 32 rfl <| kc 40 rfl <| kn) rfl ?_
       refine T_if h rfl (fun b40 h => ?_) (fun b40 h => ?_)
       ·
        refine T_keep (kn) rfl ?_
        refine T_seq (T_reg ?_)
        refine R_q _ rfl (v_assign (ov rfl)) ?_
        refine R_nil ?_
        rw [lx h] at ho1
        replace h := ho1
        obtain rfl := rt (v := 5) h
        refine T_ret (retq ?_ (.one (.tmp rfl (Dat.view (.b rfl)))))
        rfl
       ·
        refine T_skip ?_
        refine T_keep (kc 5 rfl <| kc 6 rfl <| kc 30 rfl <| kc 31 rfl <| kc 32 rfl <| kn) rfl ?_
        refine T_reg ?_
        refine R_q _ rfl (v_add (ov rfl) (ov rfl) rfl) ?_
        refine R_q _ rfl (v_move (ov rfl)) ?_
        refine R_nil ?_
        exact ⟨(y6.2, (i64 (i + 1))), h, Ent.sel [some 0] (sr 5 rfl (.mref _ rfl) <| sd 6 rfl rfl <| sd 30 rfl rfl <| sd 31 rfl rfl <| sd 32 rfl rfl <| sn) (.cons rfl (roMap (fk := FK123) (fv := FV3) (m := y6.2) tZ_83 (fun _ => rAgg (rld rfl)) (fun _ => .ren (.dat rfl))) <| .nil) rfl rfl⟩
      ·
       refine T_exit ?_
       rw [lx h] at ho1
       replace h := ho1
       exact ⟨(), h, Ent.sel [] (sd 6 rfl rfl <| sn) (.nil) rfl rfl⟩
     ·
      replace h := elr h
      cases j
      replace h := t0i h
      refine t0T ?_
      refine T_seq ?_
      refine T_seq (T_reg ?_)
      refine R_q _ rfl (v_move (ov rfl)) ?_
      refine R_q _ rfl (v_len (slv_sl (ov rfl) tZ_87) tL45 (len_map _ _)) ?_
      refine R_q _ rfl (v_eql (ov rfl) (ov rfl)) ?_
      refine R_nil ?_
      refine T_keep (kc 44 rfl <| kn) rfl ?_
      refine T_if h rfl (fun b44 h => ?_) (fun b44 h => ?_)
      ·
       refine T_keep (kn) rfl ?_
       refine T_seq (T_reg ?_)
       refine R_q _ rfl (v_assign (ov rfl)) ?_
       refine R_nil ?_
       obtain rfl := rt (v := 13) h
       refine T_ret (retq ?_ (.one (.tmp rfl (Dat.view (.b rfl)))))
       rfl
      ·
       refine T_skip ?_
       refine T_keep (kn) rfl ?_
       refine T_seq (T_reg ?_)
       refine R_q _ rfl (v_assign (ov rfl)) ?_
       refine R_nil ?_
       obtain rfl := rt (v := 0) h
       refine T_ret (retq ?_ (.one (.tmp rfl (Dat.view (.b rfl)))))
       rfl

theorem ok_series_within {n : Int} {low : Int} {high : Int} {r : Bool} (h : series_within n low high = some r) :
  CSpec Tryd.prog gl0 13 [.int .i64 n, .int .i64 low, .int .i64 high] (.bool r) := by
 unfold series_within at h
 replace h := bnd0 h
 refine spec_of (by kernel_rfl) Tryd.func13 rfl rfl ?_
 intro w0 A
 refine T_seq (T_reg ?_)
 refine R_q _ rfl (v_assign (ov rfl)) ?_
 refine R_nil ?_
 refine T_seq (T_reg ?_)
 refine R_q _ rfl (v_move (ov rfl)) ?_
 refine R_q _ rfl (v_move (ov rfl)) ?_
 refine R_q _ rfl (v_geq (ov rfl) (ov rfl)) ?_
 refine R_q _ rfl (v_move (ov rfl)) ?_
 refine R_q _ rfl (.guarded ((decide (low ≤ n)) == true) rfl rfl rfl rfl fun h => v_move (ov rfl)) ?_
 refine R_q _ rfl (.guarded ((decide (low ≤ n)) == true) rfl rfl rfl rfl fun h => v_move (ov rfl)) ?_
 refine R_q _ rfl (.guarded ((decide (low ≤ n)) == true) rfl rfl rfl rfl fun h => v_leq (ow rfl h) (ow rfl h)) ?_
 refine R_q _ rfl (v_and (ov rfl) (fun hp => ow rfl (gT hp))) ?_
 refine R_q _ rfl (v_assign (ov rfl)) ?_
 refine R_nil ?_
 obtain rfl := rt (v := ((decide (low ≤ n)) && (decide (n ≤ high)))) h
 refine T_ret (retq ?_ (.one (.tmp rfl (Dat.view (.b rfl)))))
 rfl

theorem ok_slices_IndexFunc_api_Param_api_Param {s : List api_Param} {f : api_Param → Option Bool} {r : Int} {f_f : FuncId} {f_c : List AV} (f_d : f_c.all datB = true) (f_h : ∀ (z0 : api_Param) z, f z0 = some z → CSpec Tryd.prog gl0 f_f ([.agg [.str z0.Name, .int .i64 z0.Kind, .sl 113 (List.map R113 z0.Parts), .int .i64 z0.First, .int .i64 z0.Every, .int .i64 z0.Times, .int .i64 z0.Step, .sl 9 (List.map R9 z0.Names)]] ++ f_c) (.bool z)) (h : slices_IndexFunc_api_Param_api_Param s f = some r) :
  CSpec Tryd.prog gl0 99 [.sl 25 (List.map R25 s), .fn f_f f_c] (.int .i64 r) := by
 unfold slices_IndexFunc_api_Param_api_Param at h
 replace h := bnd0 h
 refine spec_of (by kernel_rfl) Tryd.func99 rfl rfl ?_
 intro w0 A
 refine T_seq (T_reg ?_)
 refine R_q _ rfl (v_assign (ov rfl)) ?_
 refine R_nil ?_
 refine T_joinG (fun j => (.inr j)) (t0 ⟨[], []⟩) h (fun h => ?_) (fun j h => ?_)
 ·
  refine T_keep (kc 0 rfl <| kc 1 rfl <| kn) rfl ?_
  refine T_seq (T_reg ?_)
  refine R_q _ rfl (v_move (ov rfl)) ?_
  refine R_q _ rfl (v_len (slv_sl (ov rfl) tZ_25) tL48 (len_map _ _)) ?_
  refine R_q _ rfl (v_move (ov rfl)) ?_
  refine R_nil ?_
  refine T_block ?_
  obtain ⟨r1, hl1, ho1⟩ := bndL h
  refine T_loopG _ (t1 fun i => ⟨[(0, .sl 25 (List.map R25 s)), (1, .fn f_f f_c), (7, .int .i64 (s.length : Int)), (8, .int .i64 i)], []⟩) _ hl1 (Ent.sel [] (sd 0 rfl rfl <| sr 1 rfl (rFn (rld f_d)) <| sd 7 rfl rfl <| sd 8 rfl rfl <| sn) (.nil) rfl rfl) (fun n1 s1 h => ?_)
  obtain ⟨i, rfl⟩ : ∃ x, x = s1 := ⟨_, rfl⟩
  replace h := t1i h
  refine t1T ?_
  unfold slices_IndexFunc_api_Param_api_Param_L1 at h
  refine T_seq (T_reg ?_)
  refine R_q _ rfl (v_lss (ov rfl) (ov rfl)) ?_
  refine R_nil ?_
  refine T_seq ?_
  refine T_if h rfl (fun b9 h => ?_) (fun b9 h => ?_)
  ·
   refine T_skip ?_
   refine T_seq ?_
   refine T_block ?_
   refine T_keep (kc 0 rfl <| kc 1 rfl <| kc 7 rfl <| kc 8 rfl <| kn) rfl ?_
   refine T_seq (T_reg ?_)
   refine R_q _ rfl (v_move (ov rfl)) ?_
   refine R_q _ rfl (v_assign (ov rfl)) ?_
   refine R_nil ?_
   refine T_keep (kc 0 rfl <| kc 1 rfl <| kc 5 rfl <| kc 7 rfl <| kc 8 rfl <| kn) rfl ?_
   refine T_seq (T_reg ?_)
   refine R_q _ rfl (v_move (ov rfl)) ?_
   refine R_q _ rfl (v_move (ov rfl)) ?_
   refine R_q _ rfl (v_move (ov rfl)) ?_
   obtain ⟨x, h_x, h⟩ := bnd h
   refine R_q _ rfl (v_ixSG (ov rfl) (ov rfl) tL48 h_x) ?_
   refine R_q _ rfl (v_loadA_r (ov rfl) tA25 rfl rfl) ?_
   obtain ⟨y, h_y, h⟩ := bnd h
   refine R_q _ rfl (v_callC (ov rfl) f_d (f_h _ _ h_y) (.cons (ov rfl) (.aggB rfl) <| .nil)) ?_
   refine R_nil ?_
   refine T_keep (kc 0 rfl <| kc 1 rfl <| kc 5 rfl <| kc 7 rfl <| kc 8 rfl <| kc 16 rfl <| kn) rfl ?_
   refine T_if h rfl (fun b16 h => ?_) (fun b16 h => ?_)
   ·
    refine T_keep (kc 5 rfl <| kn) rfl ?_
    refine T_seq (T_reg ?_)
    refine R_q _ rfl (v_move (ov rfl)) ?_
    refine R_q _ rfl (v_assign (ov rfl)) ?_
    refine R_nil ?_
    rw [lx h] at ho1
    replace h := ho1
    obtain rfl := rt (v := i) h
    refine T_ret (retq ?_ (.one (.tmp rfl (Dat.view (.b rfl)))))
    rfl
   ·
    refine T_skip ?_
    refine T_keep (kc 0 rfl <| kc 1 rfl <| kc 7 rfl <| kc 8 rfl <| kn) rfl ?_
    refine T_reg ?_
    refine R_q _ rfl (v_add (ov rfl) (ov rfl) rfl) ?_
    refine R_q _ rfl (v_move (ov rfl)) ?_
    refine R_nil ?_
    exact ⟨(i64 (i + 1)), h, Ent.sel [] (sd 0 rfl rfl <| sr 1 rfl (rFn (rld f_d)) <| sd 7 rfl rfl <| sd 8 rfl rfl <| sn) (.nil) rfl rfl⟩
  ·
   refine T_exit ?_
   rw [lx h] at ho1
   replace h := ho1
   exact ⟨(), h, Ent.sel [] (sn) (.nil) rfl rfl⟩
 ·
  replace h := elr h
  cases j
  replace h := t0i h
  refine t0T ?_
  refine T_seq (T_reg ?_)
  refine R_q _ rfl (v_assign (ov rfl)) ?_
  refine R_nil ?_
  obtain rfl := rt (v := (-1)) h
  refine T_ret (retq ?_ (.one (.tmp rfl (Dat.view (.b rfl)))))
  rfl

theorem ok_slices_ContainsFunc_api_Param_api_Param {s : List api_Param} {f : api_Param → Option Bool} {r : Bool} {f_f : FuncId} {f_c : List AV} (f_d : f_c.all datB = true) (f_h : ∀ (z0 : api_Param) z, f z0 = some z → CSpec Tryd.prog gl0 f_f ([.agg [.str z0.Name, .int .i64 z0.Kind, .sl 113 (List.map R113 z0.Parts), .int .i64 z0.First, .int .i64 z0.Every, .int .i64 z0.Times, .int .i64 z0.Step, .sl 9 (List.map R9 z0.Names)]] ++ f_c) (.bool z)) (h : slices_ContainsFunc_api_Param_api_Param s f = some r) :
  CSpec Tryd.prog gl0 70 [.sl 25 (List.map R25 s), .fn f_f f_c] (.bool r) := by
 unfold slices_ContainsFunc_api_Param_api_Param at h
 replace h := bnd0 h
 refine spec_of (by kernel_rfl) Tryd.func70 rfl rfl ?_
 intro w0 A
 refine T_seq (T_reg ?_)
 refine R_q _ rfl (v_assign (ov rfl)) ?_
 refine R_nil ?_
 refine T_seq (T_reg ?_)
 refine R_q _ rfl (v_move (ov rfl)) ?_
 refine R_q _ rfl (v_move (ov rfl)) ?_
 obtain ⟨y, h_y, h⟩ := bnd h
 refine R_q _ rfl (v_call (ok_slices_IndexFunc_api_Param_api_Param f_d f_h h_y) (.cons (ov rfl) (.b rfl) <| .cons (ov rfl) (Dat.fnC (.refl fun x hx => .b (List.all_eq_true.1 f_d x hx))) <| .nil)) ?_
 refine R_q _ rfl (v_geq (ov rfl) (ov rfl)) ?_
 refine R_q _ rfl (v_assign (ov rfl)) ?_
 refine R_nil ?_
 obtain rfl := rt (v := (decide (0 ≤ y))) h
 refine T_ret (retq ?_ (.one (.tmp rfl (Dat.view (.b rfl)))))
 rfl

theorem ok_layout_check_1 {q : api_Param} {c0 : api_Param} {r : Bool} (h : layout_check_1 q c0 = some r) :
  CSpec Tryd.prog gl0 71 [.agg [.str q.Name, .int .i64 q.Kind, .sl 113 (List.map R113 q.Parts), .int .i64 q.First, .int .i64 q.Every, .int .i64 q.Times, .int .i64 q.Step, .sl 9 (List.map R9 q.Names)], .rp [.str c0.Name, .int .i64 c0.Kind, .sl 113 (List.map R113 c0.Parts), .int .i64 c0.First, .int .i64 c0.Every, .int .i64 c0.Times, .int .i64 c0.Step, .sl 9 (List.map R9 c0.Names)] 0] (.bool r) := by
 unfold layout_check_1 at h
 replace h := bnd0 h
 refine spec_of (by kernel_rfl) Tryd.func71 rfl rfl ?_
 intro w0 A
 refine T_seq (T_reg ?_)
 refine R_q _ rfl (v_boxD (cva (ov rfl)) rfl tZ_25 rfl) ?_
 refine R_q _ rfl (v_assign (ov rfl)) ?_
 refine R_nil ?_
 refine T_keep (kc 1 rfl <| kc 2 rfl <| kc 3 rfl <| kn) rfl ?_
 refine T_seq (T_reg ?_)
 refine R_q _ rfl (v_fieldR (ov rfl) tF25_0) ?_
 refine R_q _ rfl (v_loadS_r (ov rfl) tS9 rfl) ?_
 refine R_q _ rfl (v_fieldR (ov rfl) tF25_0) ?_
 refine R_q _ rfl (v_loadS_r (ov rfl) tS9 rfl) ?_
 refine R_q _ rfl (v_eqlStr (ov rfl) (ov rfl)) ?_
 refine R_q _ rfl (v_assign (ov rfl)) ?_
 refine R_nil ?_
 obtain rfl := rt (v := (decide (q.Name = c0.Name))) h
 refine T_ret (retq ?_ (.one (.tmp rfl (Dat.view (.b rfl)))))
 rfl

theorem ok_layout_check {m : api_Map} {r : Int × Int} (h : layout_check m = some r) :
  CSpec Tryd.prog gl0 40 [.agg [.int .i64 m.Version, .sl 25 (List.map R25 m.Params)]] (.tuple [.int .i64 r.1, .int .i64 r.2]) := by
 unfold layout_check at h
 replace h := bnd0 h
 refine spec_of (by kernel_rfl) Tryd.func40 rfl rfl ?_
 intro w0 A
 refine T_seq (T_reg ?_)
 refine R_q _ rfl (v_boxD (cva (ov rfl)) rfl tZ_50 rfl) ?_
 refine R_q _ rfl (v_assign (ov rfl)) ?_
 refine R_q _ rfl (v_assign (ov rfl)) ?_
 refine R_nil ?_
 refine T_seq ?_
 refine T_keep (kc 1 rfl <| kn) rfl ?_
 refine T_seq (T_reg ?_)
 refine R_q _ rfl (v_fieldR (ov rfl) tF50_0) ?_
 refine R_q _ rfl (v_loadS_r (ov rfl) tS3 rfl) ?_
 obtain ⟨y, h_y, h⟩ := bnd h
 refine R_q _ rfl (v_call (ok_layout_within h_y) (.cons (ov rfl) (.b rfl) <| .cons (ov rfl) (.b rfl) <| .cons (ov rfl) (.b rfl) <| .nil)) ?_
 refine R_q _ rfl (v_not (ov rfl)) ?_
 refine R_nil ?_
 refine T_keep (kc 1 rfl <| kc 18 rfl <| kn) rfl ?_
 refine T_if h rfl (fun b18 h => ?_) (fun b18 h => ?_)
 ·
  refine T_keep (kn) rfl ?_
  refine T_seq (T_reg ?_)
  refine R_q _ rfl (v_assign (ov rfl)) ?_
  refine R_q _ rfl (v_assign (ov rfl)) ?_
  refine R_nil ?_
  obtain rfl := rt (v := ((-1), 9)) h
  refine T_ret (retq ?_ (.two (.tmp rfl (Dat.view (.b rfl))) (.tmp rfl (Dat.view (.b rfl)))))
  rfl
 ·
  refine T_skip ?_
  refine T_seq ?_
  refine T_keep (kc 1 rfl <| kn) rfl ?_
  refine T_seq (T_reg ?_)
  refine R_q _ rfl (v_fieldR (ov rfl) tF50_1) ?_
  refine R_q _ rfl (v_loadS_r (ov rfl) tS48 rfl) ?_
  refine R_q _ rfl (v_len (slv_sl (ov rfl) tZ_25) tL48 (len_map _ _)) ?_
  refine R_q _ rfl (v_gtr (ov rfl) (ov rfl)) ?_
  refine R_nil ?_
  refine T_keep (kc 1 rfl <| kc 22 rfl <| kn) rfl ?_
  refine T_if h rfl (fun b22 h => ?_) (fun b22 h => ?_)
  ·
   refine T_keep (kn) rfl ?_
   refine T_seq (T_reg ?_)
   refine R_q _ rfl (v_assign (ov rfl)) ?_
   refine R_q _ rfl (v_assign (ov rfl)) ?_
   refine R_nil ?_
   obtain rfl := rt (v := ((-1), 3)) h
   refine T_ret (retq ?_ (.two (.tmp rfl (Dat.view (.b rfl))) (.tmp rfl (Dat.view (.b rfl)))))
   rfl
  ·
   refine T_skip ?_
   refine T_joinG (fun j => (.inr j)) (t0 ⟨[(1, .rp [.int .i64 m.Version, .sl 25 (List.map R25 m.Params)] 0)], []⟩) h (fun h => ?_) (fun j h => ?_)
   ·
    refine T_keep (kc 1 rfl <| kn) rfl ?_
    refine T_seq (T_reg ?_)
    refine R_q _ rfl (v_fieldR (ov rfl) tF50_1) ?_
    refine R_q _ rfl (v_loadS_r (ov rfl) tS48 rfl) ?_
    refine R_q _ rfl (v_len (slv_sl (ov rfl) tZ_25) tL48 (len_map _ _)) ?_
    refine R_q _ rfl (v_move (ov rfl)) ?_
    refine R_nil ?_
    refine T_block ?_
    obtain ⟨r1, hl1, ho1⟩ := bndL h
    refine T_loopG _ (t1 fun i => ⟨[(1, .rp [.int .i64 m.Version, .sl 25 (List.map R25 m.Params)] 0), (24, .sl 25 (List.map R25 m.Params)), (25, .int .i64 (m.Params.length : Int)), (26, .int .i64 i)], []⟩) _ hl1 (Ent.sel [] (sd 1 rfl rfl <| sd 24 rfl rfl <| sd 25 rfl rfl <| sd 26 rfl rfl <| sn) (.nil) rfl rfl) (fun n1 s1 h => ?_)
    obtain ⟨i, rfl⟩ : ∃ x, x = s1 := ⟨_, rfl⟩
    replace h := t1i h
    refine t1T ?_
    unfold layout_check_L1 at h
    refine T_seq (T_reg ?_)
    refine R_q _ rfl (v_lss (ov rfl) (ov rfl)) ?_
    refine R_nil ?_
    refine T_seq ?_
    refine T_if h rfl (fun b27 h => ?_) (fun b27 h => ?_)
    ·
     refine T_skip ?_
     refine T_seq ?_
     refine T_block ?_
     refine T_keep (kc 1 rfl <| kc 24 rfl <| kc 25 rfl <| kc 26 rfl <| kn) rfl ?_
     refine T_seq (T_reg ?_)
     refine R_q _ rfl (v_move (ov rfl)) ?_
     obtain ⟨x, h_x, h⟩ := bnd h
     refine R_q _ rfl (v_ixSG (ov rfl) (ov rfl) tL48 h_x) ?_
     refine R_q _ rfl (v_loadA_r (ov rfl) tA25 rfl rfl) ?_
     refine R_w _ _ rfl (w_alloc (row := [_, _, _, _, _, _, _, _]) 0 rfl tZ25 rfl tZ_25) ?_
     refine R_q _ rfl (v_assign (ov rfl)) ?_
     refine R_w _ _ rfl (w_store (ov rfl) (ov rfl) (cells_agg tA25 rfl) rfl rfl rfl (Nat.le_of_ble_eq_true rfl) (cell1_all rfl) rfl) ?_
     refine R_nil ?_
     refine T_seq ?_
     refine T_keep (kc 1 rfl <| kc 4 rfl <| kc 5 rfl <| kc 24 rfl <| kc 25 rfl <| kc 26 rfl <| kn) rfl ?_
     refine T_seq (T_reg ?_)
     refine R_q _ rfl (v_loadA (ov rfl) rfl rfl rfl tA25 rfl rfl) ?_
     obtain ⟨y2, h_y2, h⟩ := bnd h
     refine R_q _ rfl (v_call (ok_layout_CheckParam h_y2) (.cons (ov rfl) (.aggB rfl) <| .nil)) ?_
     refine R_q _ rfl (v_assign (ov rfl)) ?_
     refine R_nil ?_
     refine T_keep (kc 1 rfl <| kc 4 rfl <| kc 5 rfl <| kc 6 rfl <| kc 24 rfl <| kc 25 rfl <| kc 26 rfl <| kn) rfl ?_
     refine T_seq (T_reg ?_)
     refine R_q _ rfl (v_move (ov rfl)) ?_
     refine R_q _ rfl (v_neq (ov rfl) (ov rfl)) ?_
     refine R_nil ?_
     refine T_keep (kc 1 rfl <| kc 4 rfl <| kc 5 rfl <| kc 6 rfl <| kc 24 rfl <| kc 25 rfl <| kc 26 rfl <| kc 34 rfl <| kn) rfl ?_
     refine T_if h rfl (fun b34 h => ?_) (fun b34 h => ?_)
     ·
      refine T_keep (kc 4 rfl <| kc 6 rfl <| kn) rfl ?_
      refine T_seq (T_reg ?_)
      refine R_q _ rfl (v_move (ov rfl)) ?_
      refine R_q _ rfl (v_move (ov rfl)) ?_
      refine R_q _ rfl (v_assign (ov rfl)) ?_
      refine R_q _ rfl (v_assign (ov rfl)) ?_
      refine R_nil ?_
      rw [lx h] at ho1
      replace h := ho1
      obtain rfl := rt (v := (i, y2)) h
      refine T_ret (retq ?_ (.two (.tmp rfl (Dat.view (.b rfl))) (.tmp rfl (Dat.view (.b rfl)))))
      rfl
     ·
      refine T_skip ?_
      refine T_keep (kc 1 rfl <| kc 4 rfl <| kc 5 rfl <| kc 24 rfl <| kc 25 rfl <| kc 26 rfl <| kn) rfl ?_
      refine T_seq (T_reg ?_)
      refine R_q _ rfl (v_fieldR (ov rfl) tF50_1) ?_
      refine R_q _ rfl (v_loadS_r (ov rfl) tS48 rfl) ?_
      refine R_q _ rfl (v_move (ov rfl)) ?_
      obtain ⟨l, h_l, h⟩ := bnd h
      refine R_q _ rfl (v_sliceG (ov rfl) tL48 on (oi (ov rfl)) h_l) ?_
      refine R_ent (Ent.sel [none] (sd 1 rfl rfl <| sd 4 rfl rfl <| sr 5 rfl (.frp ⟨rfl, ⟨_, rfl⟩, rfl, rfl⟩) <| sd 24 rfl rfl <| sd 25 rfl rfl <| sd 26 rfl rfl <| sd 37 rfl rfl <| sd 38 rfl rfl <| sd 39 rfl rfl <| sd 40 rfl rfl <| sn) (.row 25 <| .nil) rfl rfl) ?_
      refine R_q _ rfl (v_makeFunc (.cons (ov rfl) <| .nil)) ?_
      obtain ⟨y3, h_y3, h⟩ := bnd h
      refine R_q _ rfl (v_call (ok_slices_ContainsFunc_api_Param_api_Param rfl (fun z0 _ hz => ok_layout_check_1 hz) h_y3) (.cons (ov rfl) (.b rfl) <| .cons (ov rfl) (.fnC (.cons (.b rfl) <| .nil)) <| .nil)) ?_
      refine R_nil ?_
      refine T_keep (kc 1 rfl <| kc 4 rfl <| kc 24 rfl <| kc 25 rfl <| kc 26 rfl <| kc 42 rfl <| kn) rfl ?_
      refine T_if h rfl (fun b42 h => ?_) (fun b42 h => ?_)
      ·
       refine T_keep (kc 4 rfl <| kn) rfl ?_
       refine T_seq (T_reg ?_)
       refine R_q _ rfl (v_move (ov rfl)) ?_
       refine R_q _ rfl (v_assign (ov rfl)) ?_
       refine R_q _ rfl (v_assign (ov rfl)) ?_
       refine R_nil ?_
       rw [lx h] at ho1
       replace h := ho1
       obtain rfl := rt (v := (i, 5)) h
       refine T_ret (retq ?_ (.two (.tmp rfl (Dat.view (.b rfl))) (.tmp rfl (Dat.view (.b rfl)))))
       rfl
      ·
       refine T_skip ?_
       refine T_keep (kc 1 rfl <| kc 24 rfl <| kc 25 rfl <| kc 26 rfl <| kn) rfl ?_
       refine T_reg ?_
       refine R_q _ rfl (v_add (ov rfl) (ov rfl) rfl) ?_
       refine R_q _ rfl (v_move (ov rfl)) ?_
       refine R_nil ?_
       exact ⟨(i64 (i + 1)), h, Ent.sel [] (sd 1 rfl rfl <| sd 24 rfl rfl <| sd 25 rfl rfl <| sd 26 rfl rfl <| sn) (.nil) rfl rfl⟩
    ·
     refine T_exit ?_
     rw [lx h] at ho1
     replace h := ho1
     exact ⟨(), h, Ent.sel [] (sd 1 rfl rfl <| sn) (.nil) rfl rfl⟩
   ·
    replace h := elr h
    cases j
    replace h := t0i h
    refine t0T ?_
    refine T_seq (T_reg ?_)
    refine R_q _ rfl (v_assign (ov rfl)) ?_
    refine R_nil ?_
    refine T_joinG (fun j => (.inr j)) (t0 ⟨[(1, .rp [.int .i64 m.Version, .sl 25 (List.map R25 m.Params)] 0)], []⟩) h (fun h => ?_) (fun j h => ?_)
    ·
     refine T_seq (T_reg ?_)
     refine R_q _ rfl (v_fieldR (ov rfl) tF50_1) ?_
     refine R_q _ rfl (v_loadS_r (ov rfl) tS48 rfl) ?_
     refine R_q _ rfl (v_len (slv_sl (ov rfl) tZ_25) tL48 (len_map _ _)) ?_
     refine R_q _ rfl (v_move (ov rfl)) ?_
     refine R_nil ?_
     refine T_block ?_
     obtain ⟨r2, hl2, ho2⟩ := bndL h
     refine T_loopG _ (t2 fun cells i2 => ⟨[(1, .rp [.int .i64 m.Version, .sl 25 (List.map R25 m.Params)] 0), (7, .int .i64 cells), (46, .sl 25 (List.map R25 m.Params)), (47, .int .i64 (m.Params.length : Int)), (48, .int .i64 i2)], []⟩) _ hl2 (Ent.sel [] (sd 1 rfl rfl <| sd 7 rfl rfl <| sd 46 rfl rfl <| sd 47 rfl rfl <| sd 48 rfl rfl <| sn) (.nil) rfl rfl) (fun n2 s2 h => ?_)
     obtain ⟨cells, i2⟩ := s2
     replace h := t2i h
     refine t2T ?_
     unfold layout_check_L2 at h
     refine T_seq (T_reg ?_)
     refine R_q _ rfl (v_lss (ov rfl) (ov rfl)) ?_
     refine R_nil ?_
     refine T_seq ?_
     refine T_if h rfl (fun b49 h => ?_) (fun b49 h => ?_)
     ·
      refine T_skip ?_
      refine T_seq ?_
      refine T_block ?_
      refine T_keep (kc 1 rfl <| kc 7 rfl <| kc 46 rfl <| kc 47 rfl <| kc 48 rfl <| kn) rfl ?_
      refine T_seq (T_reg ?_)
      refine R_q _ rfl (v_move (ov rfl)) ?_
      obtain ⟨x2, h_x2, h⟩ := bnd h
      refine R_q _ rfl (v_ixSG (ov rfl) (ov rfl) tL48 h_x2) ?_
      refine R_q _ rfl (v_loadA_r (ov rfl) tA25 rfl rfl) ?_
      refine R_w _ _ rfl (w_alloc (row := [_, _, _, _, _, _, _, _]) 0 rfl tZ25 rfl tZ_25) ?_
      refine R_q _ rfl (v_assign (ov rfl)) ?_
      refine R_w _ _ rfl (w_store (ov rfl) (ov rfl) (cells_agg tA25 rfl) rfl rfl rfl (Nat.le_of_ble_eq_true rfl) (cell1_all rfl) rfl) ?_
      refine R_nil ?_
      refine T_keep (kc 1 rfl <| kc 7 rfl <| kc 8 rfl <| kc 9 rfl <| kc 46 rfl <| kc 47 rfl <| kc 48 rfl <| kn) rfl ?_
      refine T_seq (T_draw (cw := md0) (by kernel_rfl) ?_)
      refine D_q0 0 _ rfl (by kernel_rfl) rfl rfl (v_move (ov rfl)) ?_
      refine D_q0 1 _ rfl (by kernel_rfl) rfl rfl (v_loadA (ov rfl) rfl rfl rfl tA25 rfl rfl) ?_
      obtain ⟨y4, h_y4, h⟩ := bnd h
      refine D_q0 2 _ rfl (by kernel_rfl) rfl rfl (v_call (ok_layout_starts h_y4) (.cons (ov rfl) (.aggB rfl) <| .nil)) ?_
      refine D_q0 3 _ rfl (by kernel_rfl) rfl rfl (v_len (slv_sl (ov rfl) tZ_3) tL26 (len_map _ _)) ?_
      refine D_q0 4 _ rfl (by kernel_rfl) rfl rfl (v_fieldP (ov rfl) rfl rfl tF25_5) ?_
      refine D_q0 5 _ rfl (by kernel_rfl) rfl rfl (v_loadS (ov rfl) rfl rfl rfl tS3 rfl) ?_
      refine D_q0 6 _ rfl (by kernel_rfl) rfl rfl (v_mul (ov rfl) (ov rfl) rfl) ?_
      refine D_q0 7 _ rfl (by kernel_rfl) rfl rfl (v_add (ov rfl) (ov rfl) rfl) ?_
      refine D_q0 8 _ rfl (by kernel_rfl) rfl rfl (v_assign (ov rfl)) ?_
      refine D_done (by kernel_rfl) ?_
      refine T_keep (kc 1 rfl <| kc 7 rfl <| kc 8 rfl <| kc 46 rfl <| kc 47 rfl <| kc 48 rfl <| kn) rfl ?_
      refine T_seq (T_reg ?_)
      refine R_q _ rfl (v_move (ov rfl)) ?_
      refine R_q _ rfl (v_gtr (ov rfl) (ov rfl)) ?_
      refine R_nil ?_
      refine T_keep (kc 1 rfl <| kc 7 rfl <| kc 8 rfl <| kc 46 rfl <| kc 47 rfl <| kc 48 rfl <| kc 62 rfl <| kn) rfl ?_
      refine T_if h rfl (fun b62 h => ?_) (fun b62 h => ?_)
      ·
       refine T_keep (kc 8 rfl <| kn) rfl ?_
       refine T_seq (T_reg ?_)
       refine R_q _ rfl (v_move (ov rfl)) ?_
       refine R_q _ rfl (v_assign (ov rfl)) ?_
       refine R_q _ rfl (v_assign (ov rfl)) ?_
       refine R_nil ?_
       rw [lx h] at ho2
       replace h := ho2
       obtain rfl := rt (v := (i2, 3)) h
       refine T_ret (retq ?_ (.two (.tmp rfl (Dat.view (.b rfl))) (.tmp rfl (Dat.view (.b rfl)))))
       rfl
      ·
       refine T_skip ?_
       refine T_keep (kc 1 rfl <| kc 7 rfl <| kc 46 rfl <| kc 47 rfl <| kc 48 rfl <| kn) rfl ?_
       refine T_reg ?_
       refine R_q _ rfl (v_add (ov rfl) (ov rfl) rfl) ?_
       refine R_q _ rfl (v_move (ov rfl)) ?_
       refine R_nil ?_
       exact ⟨((i64 (cells + (i64 ((y4.length : Int) * x2.Times)))), (i64 (i2 + 1))), h, Ent.sel [] (sd 1 rfl rfl <| sd 7 rfl rfl <| sd 46 rfl rfl <| sd 47 rfl rfl <| sd 48 rfl rfl <| sn) (.nil) rfl rfl⟩
     ·
      refine T_exit ?_
      rw [lx h] at ho2
      replace h := ho2
      exact ⟨(), h, Ent.sel [] (sd 1 rfl rfl <| sn) (.nil) rfl rfl⟩
    ·
     replace h := elr h
     cases j
     replace h := t0i h
     refine t0T ?_
     refine T_seq (T_reg ?_)
     refine R_w _ _ rfl (w_makeMap 0 rfl tMp83) ?_
     refine R_q _ rfl (v_assign (ov rfl)) ?_
     refine R_nil ?_
     refine T_joinG (fun j => (.inr j)) (t0 ⟨[], []⟩) h (fun h => ?_) (fun j h => ?_)
     ·
      refine T_keep (kc 1 rfl <| kc 10 rfl <| kn) rfl ?_
      refine T_seq (T_reg ?_)
      refine R_q _ rfl (v_fieldR (ov rfl) tF50_1) ?_
      refine R_q _ rfl (v_loadS_r (ov rfl) tS48 rfl) ?_
      refine R_q _ rfl (v_len (slv_sl (ov rfl) tZ_25) tL48 (len_map _ _)) ?_
      refine R_q _ rfl (v_move (ov rfl)) ?_
      refine R_nil ?_
      refine T_block ?_
      obtain ⟨r3, hl3, ho3⟩ := bndL h
      refine T_loopG _ (t2 fun taken i3 => ⟨[(10, .mref 0 1), (67, .sl 25 (List.map R25 m.Params)), (68, .int .i64 (m.Params.length : Int)), (69, .int .i64 i3)], [some ⟨83, [[.mcon (List.map (mrow FK123 FV3) taken)]]⟩]⟩) _ hl3 (Ent.sel [some 0] (sr 10 rfl (.mref _ rfl) <| sd 67 rfl rfl <| sd 68 rfl rfl <| sd 69 rfl rfl <| sn) (.cons rfl (roMap (fk := FK123) (fv := FV3) (m := ([] : List (layout_bit × Int))) tZ_83 (fun _ => rAgg (rld rfl)) (fun _ => .ren (.dat rfl))) <| .nil) rfl rfl) (fun n3 s3 h => ?_)
      obtain ⟨taken, i3⟩ := s3
      replace h := t2i h
      refine t2T ?_
      unfold layout_check_L3 at h
      refine T_seq (T_reg ?_)
      refine R_q _ rfl (v_lss (ov rfl) (ov rfl)) ?_
      refine R_nil ?_
      refine T_seq ?_
      refine T_if h rfl (fun b70 h => ?_) (fun b70 h => ?_)
      ·
       refine T_skip ?_
       refine T_joinG (fun j => (.inr j)) (t1 fun taken2 => ⟨[(10, .mref 0 1), (67, .sl 25 (List.map R25 m.Params)), (68, .int .i64 (m.Params.length : Int)), (69, .int .i64 i3)], [some ⟨83, [[.mcon (List.map (mrow FK123 FV3) taken2)]]⟩]⟩) h (fun h => ?_) (fun j h => ?_)
       ·
        refine T_block ?_
        refine T_keep (kc 10 rfl <| kc 67 rfl <| kc 68 rfl <| kc 69 rfl <| kn) rfl ?_
        refine T_seq (T_reg ?_)
        refine R_q _ rfl (v_move (ov rfl)) ?_
        obtain ⟨x3, h_x3, h⟩ := bnd h
        refine R_q _ rfl (v_ixSG (ov rfl) (ov rfl) tL48 h_x3) ?_
        refine R_q _ rfl (v_loadA_r (ov rfl) tA25 rfl rfl) ?_
        refine R_w _ _ rfl (w_alloc (row := [_, _, _, _, _, _, _, _]) 1 rfl tZ25 rfl tZ_25) ?_
        refine R_q _ rfl (v_assign (ov rfl)) ?_
        refine R_w _ _ rfl (w_store (ov rfl) (ov rfl) (cells_agg tA25 rfl) rfl rfl rfl (Nat.le_of_ble_eq_true rfl) (cell1_all rfl) rfl) ?_
        refine R_nil ?_
        refine T_keep (kc 10 rfl <| kc 11 rfl <| kc 12 rfl <| kc 67 rfl <| kc 68 rfl <| kc 69 rfl <| kn) rfl ?_
        refine T_seq (T_reg ?_)
        refine R_q _ rfl (v_move (ov rfl)) ?_
        refine R_q _ rfl (v_loadA (ov rfl) rfl rfl rfl tA25 rfl rfl) ?_
        obtain ⟨y5, h_y5, h⟩ := bnd h
        refine R_q _ rfl (v_call (ok_layout_cellsOf h_y5) (.cons (ov rfl) (.b rfl) <| .cons (ov rfl) (.aggB rfl) <| .nil)) ?_
        refine R_q _ rfl (v_len (slv_sl (ov rfl) tZ_87) tL45 (len_map _ _)) ?_
        refine R_q _ rfl (v_move (ov rfl)) ?_
        refine R_nil ?_
        refine T_block ?_
        obtain ⟨r4, hl4, ho4⟩ := bndL h
        refine T_loopG _ (t2 fun taken3 i4 => ⟨[(10, .mref 0 1), (11, .int .i64 i3), (67, .sl 25 (List.map R25 m.Params)), (68, .int .i64 (m.Params.length : Int)), (69, .int .i64 i3), (76, .sl 87 (List.map R87 y5)), (77, .int .i64 (y5.length : Int)), (78, .int .i64 i4)], [some ⟨83, [[.mcon (List.map (mrow FK123 FV3) taken3)]]⟩]⟩) _ hl4 (Ent.sel [some 0] (sr 10 rfl (.mref _ rfl) <| sd 11 rfl rfl <| sd 67 rfl rfl <| sd 68 rfl rfl <| sd 69 rfl rfl <| sd 76 rfl rfl <| sd 77 rfl rfl <| sd 78 rfl rfl <| sn) (.cons rfl (roMap (fk := FK123) (fv := FV3) (m := taken) tZ_83 (fun _ => rAgg (rld rfl)) (fun _ => .ren (.dat rfl))) <| .nil) rfl rfl) (fun n4 s4 h => ?_)
        obtain ⟨taken3, i4⟩ := s4
        replace h := t2i h
        refine t2T ?_
        unfold layout_check_L4 at h
        refine T_seq (T_reg ?_)
        refine R_q _ rfl (v_lss (ov rfl) (ov rfl)) ?_
        refine R_nil ?_
        refine T_seq ?_
        refine T_if h rfl (fun b79 h => ?_) (fun b79 h => ?_)
        ·
         refine T_skip ?_
         refine T_seq ?_
         refine T_block ?_
         refine T_keep (kc 10 rfl <| kc 11 rfl <| kc 67 rfl <| kc 68 rfl <| kc 69 rfl <| kc 76 rfl <| kc 77 rfl <| kc 78 rfl <| kn) rfl ?_
         refine T_seq (T_reg ?_)
         obtain ⟨x4, h_x4, h⟩ := bnd h
         refine R_q _ rfl (v_ixSG (ov rfl) (ov rfl) tL45 h_x4) ?_
         refine R_q _ rfl (v_loadA_r (ov rfl) tA87 rfl rfl) ?_
         refine R_w _ _ rfl (w_alloc (row := [_, _, _, _]) 1 rfl tZ87 rfl tZ_87) ?_
         refine R_w _ _ rfl (w_store (ov rfl) (ov rfl) (cells_agg tA87 rfl) rfl rfl rfl (Nat.le_of_ble_eq_true rfl) (cell1_all rfl) rfl) ?_
         refine R_nil ?_
         refine T_keep (kc 10 rfl <| kc 11 rfl <| kc 14 rfl <| kc 67 rfl <| kc 68 rfl <| kc 69 rfl <| kc 76 rfl <| kc 77 rfl <| kc 78 rfl <| kn) rfl ?_
         refine T_seq (T_reg ?_)
         refine R_q _ rfl (v_move (ov rfl)) ?_
         refine R_q _ rfl (v_move (ov rfl)) ?_
         refine R_q _ rfl (v_fieldP (ov rfl) rfl rfl tF87_3) ?_
         refine R_q _ rfl (v_loadS (ov rfl) rfl rfl rfl tS85 rfl) ?_
         obtain ⟨y6, h_y6, h⟩ := bnd h
         refine R_w _ _ rfl (w_callG [0] (ok_layout_take h_y6) (.cons (ov rfl) (.mref _ rfl) <| .cons (ov rfl) (.dat rfl) <| .cons (ov rfl) (.dat rfl) <| .nil) (.cons rfl (roMap (fk := FK123) (fv := FV3) (m := taken3) tZ_83 (fun _ => rAgg (rld rfl)) (fun _ => .ren (.dat rfl))) <| .nil) rfl (.lent 0 (.inl rfl) rfl (roMap (fk := FK123) (fv := FV3) (m := y6.2) tZ_83 (fun _ => rAgg (rld rfl)) (fun _ => .ren (.dat rfl))) <| .keep rfl rfl <| .nil) rfl rfl (.dat rfl)) ?_
         refine R_q _ rfl (v_not (ov rfl)) ?_
         refine R_nil ?_
         refine T_keep (kc 10 rfl <| kc 11 rfl <| kc 67 rfl <| kc 68 rfl <| kc 69 rfl <| kc 76 rfl <| kc 77 rfl <| kc 78 rfl <| kc 87 rfl <| kn) rfl ?_
         refine T_if h rfl (fun b87 h => ?_) (fun b87 h => ?_)
         ·
          refine T_keep (kc 11 rfl <| kn) rfl ?_
          refine T_seq (T_reg ?_)
          refine R_q _ rfl (v_move (ov rfl)) ?_
          refine R_q _ rfl (v_assign (ov rfl)) ?_
          refine R_q _ rfl (v_assign (ov rfl)) ?_
          refine R_nil ?_
          rw [lx h] at ho4
          replace h := ho4
          rw [lx h] at ho3
          replace h := ho3
          obtain rfl := rt (v := (i3, 5)) h
          refine T_ret (retq ?_ (.two (.tmp rfl (Dat.view (.b rfl))) (.tmp rfl (Dat.view (.b rfl)))))
          rfl
         ·
          refine T_skip ?_
          refine T_keep (kc 10 rfl <| kc 11 rfl <| kc 67 rfl <| kc 68 rfl <| kc 69 rfl <| kc 76 rfl <| kc 77 rfl <| kc 78 rfl <| kn) rfl ?_
          refine T_reg ?_
          refine R_q _ rfl (v_add (ov rfl) (ov rfl) rfl) ?_
          refine R_q _ rfl (v_move (ov rfl)) ?_
          refine R_nil ?_
          exact ⟨(y6.2, (i64 (i4 + 1))), h, Ent.sel [some 0] (sr 10 rfl (.mref _ rfl) <| sd 11 rfl rfl <| sd 67 rfl rfl <| sd 68 rfl rfl <| sd 69 rfl rfl <| sd 76 rfl rfl <| sd 77 rfl rfl <| sd 78 rfl rfl <| sn) (.cons rfl (roMap (fk := FK123) (fv := FV3) (m := y6.2) tZ_83 (fun _ => rAgg (rld rfl)) (fun _ => .ren (.dat rfl))) <| .nil) rfl rfl⟩
        ·
         refine T_exit ?_
         rw [lx h] at ho4
         replace h := ho4
         exact ⟨taken3, h, Ent.sel [some 0] (sr 10 rfl (.mref _ rfl) <| sd 67 rfl rfl <| sd 68 rfl rfl <| sd 69 rfl rfl <| sn) (.cons rfl (roMap (fk := FK123) (fv := FV3) (m := taken3) tZ_83 (fun _ => rAgg (rld rfl)) (fun _ => .ren (.dat rfl))) <| .nil) rfl rfl⟩
       ·
        replace h := elr h
        obtain ⟨taken2, rfl⟩ : ∃ x, x = j := ⟨_, rfl⟩
        replace h := t1i h
        refine t1T ?_
        refine T_reg ?_
        refine R_q _ rfl (v_add (ov rfl) (ov rfl) rfl) ?_
        refine R_q _ rfl (v_move (ov rfl)) ?_
        refine R_nil ?_
        exact ⟨(taken2, (i64 (i3 + 1))), h, Ent.sel [some 0] (sr 10 rfl (.mref _ rfl) <| sd 67 rfl rfl <| sd 68 rfl rfl <| sd 69 rfl rfl <| sn) (.cons rfl (roMap (fk := FK123) (fv := FV3) (m := taken2) tZ_83 (fun _ => rAgg (rld rfl)) (fun _ => .ren (.dat rfl))) <| .nil) rfl rfl⟩
      ·
       refine T_exit ?_
       rw [lx h] at ho3
       replace h := ho3
       exact ⟨(), h, Ent.sel [] (sn) (.nil) rfl rfl⟩
     ·
      replace h := elr h
      cases j
      replace h := t0i h
      refine t0T ?_
      refine T_seq (T_reg ?_)
      refine R_q _ rfl (v_assign (ov rfl)) ?_
      refine R_q _ rfl (v_assign (ov rfl)) ?_
      refine R_nil ?_
      obtain rfl := rt (v := ((-1), 0)) h
      refine T_ret (retq ?_ (.two (.tmp rfl (Dat.view (.b rfl))) (.tmp rfl (Dat.view (.b rfl)))))
      rfl

theorem ok_layout_cells {m : api_Map} {r : (List api_Cell)} (h : layout_cells m = some r) :
  CSpec Tryd.prog gl0 41 [.agg [.int .i64 m.Version, .sl 25 (List.map R25 m.Params)]] (.sl 87 (List.map R87 r)) := by
 unfold layout_cells at h
 replace h := bnd0 h
 refine spec_of (by kernel_rfl) Tryd.func41 rfl rfl ?_
 intro w0 A
 refine T_seq (T_reg ?_)
 refine R_q _ rfl (v_boxD (cva (ov rfl)) rfl tZ_50 rfl) ?_
 refine R_q _ rfl (v_assign (ov rfl)) ?_
 refine R_nil ?_
 refine T_keep (kc 1 rfl <| kn) rfl ?_
 refine T_seq (T_reg ?_)
 refine R_q _ rfl (v_assign (ov rfl)) ?_
 refine R_nil ?_
 refine T_joinG id (t1 fun out => ⟨[(3, .own 0 out.length)], [some ⟨87, List.map R87 out⟩]⟩) h (fun h => ?_) (fun j h => ?_)
 ·
  refine T_seq (T_reg ?_)
  refine R_q _ rfl (v_fieldR (ov rfl) tF50_1) ?_
  refine R_q _ rfl (v_loadS_r (ov rfl) tS48 rfl) ?_
  refine R_q _ rfl (v_len (slv_sl (ov rfl) tZ_25) tL48 (len_map _ _)) ?_
  refine R_q _ rfl (v_move (ov rfl)) ?_
  refine R_nil ?_
  refine T_block ?_
  obtain ⟨r1, hl1, ho1⟩ := bndL h
  refine T_loopG _ (t2 fun out2 i => ⟨[(3, .own 0 out2.length), (7, .sl 25 (List.map R25 m.Params)), (8, .int .i64 (m.Params.length : Int)), (9, .int .i64 i)], [some ⟨87, List.map R87 out2⟩]⟩) _ hl1 (Ent.sel [none] (sr 3 rfl (.row rfl) <| sd 7 rfl rfl <| sd 8 rfl rfl <| sd 9 rfl rfl <| sn) (.row 87 <| .nil) rfl rfl) (fun n1 s1 h => ?_)
  obtain ⟨out2, i⟩ := s1
  replace h := t2i h
  refine t2T ?_
  unfold layout_cells_L1 at h
  refine T_seq (T_reg ?_)
  refine R_q _ rfl (v_lss (ov rfl) (ov rfl)) ?_
  refine R_nil ?_
  refine T_seq ?_
  refine T_if h rfl (fun b10 h => ?_) (fun b10 h => ?_)
  ·
   refine T_skip ?_
   refine T_seq ?_
   refine T_block ?_
   refine T_keep (kc 3 rfl <| kc 7 rfl <| kc 8 rfl <| kc 9 rfl <| kn) rfl ?_
   refine T_seq (T_reg ?_)
   refine R_q _ rfl (v_move (ov rfl)) ?_
   obtain ⟨x, h_x, h⟩ := bnd h
   refine R_q _ rfl (v_ixSG (ov rfl) (ov rfl) tL48 h_x) ?_
   refine R_q _ rfl (v_loadA_r (ov rfl) tA25 rfl rfl) ?_
   refine R_w _ _ rfl (w_alloc (row := [_, _, _, _, _, _, _, _]) 1 rfl tZ25 rfl tZ_25) ?_
   refine R_q _ rfl (v_assign (ov rfl)) ?_
   refine R_w _ _ rfl (w_store (ov rfl) (ov rfl) (cells_agg tA25 rfl) rfl rfl rfl (Nat.le_of_ble_eq_true rfl) (cell1_all rfl) rfl) ?_
   refine R_nil ?_
   refine T_keep (kc 3 rfl <| kc 4 rfl <| kc 5 rfl <| kc 7 rfl <| kc 8 rfl <| kc 9 rfl <| kn) rfl ?_
   refine T_reg ?_
   refine R_q _ rfl (v_move (ov rfl)) ?_
   refine R_q _ rfl (v_move (ov rfl)) ?_
   refine R_q _ rfl (v_loadA (ov rfl) rfl rfl rfl tA25 rfl rfl) ?_
   obtain ⟨y, h_y, h⟩ := bnd h
   refine R_q _ rfl (v_call (ok_layout_cellsOf h_y) (.cons (ov rfl) (.b rfl) <| .cons (ov rfl) (.aggB rfl) <| .nil)) ?_
   obtain ⟨l, h_l, h⟩ := bnd h
   refine R_w _ _ rfl (w_appendZ (ov rfl) (slv_sl (ov rfl) tZ_87) tL45 rfl rfl (fun _ => cell1_all rfl) rfl h_l) ?_
   refine R_q _ rfl (v_assign (ov rfl)) ?_
   refine R_nil ?_
   refine T_keep (kc 3 rfl <| kc 7 rfl <| kc 8 rfl <| kc 9 rfl <| kn) rfl ?_
   refine T_reg ?_
   refine R_q _ rfl (v_add (ov rfl) (ov rfl) rfl) ?_
   refine R_q _ rfl (v_move (ov rfl)) ?_
   refine R_nil ?_
   exact ⟨(l, (i64 (i + 1))), h, Ent.sel [some 0] (sr 3 rfl (.own _ rfl) <| sd 7 rfl rfl <| sd 8 rfl rfl <| sd 9 rfl rfl <| sn) (.cons rfl (roM D87) <| .nil) rfl rfl⟩
  ·
   refine T_exit ?_
   rw [lx h] at ho1
   replace h := ho1
   exact ⟨out2, h, Ent.sel [some 0] (sr 3 rfl (.own _ rfl) <| sn) (.cons rfl (roM D87) <| .nil) rfl rfl⟩
 ·
  obtain ⟨out, rfl⟩ : ∃ x, x = j := ⟨_, rfl⟩
  replace h := t1i h
  refine t1T ?_
  refine T_seq (T_reg ?_)
  refine R_q _ rfl (v_move (ov rfl)) ?_
  refine R_q _ rfl (v_assign (ov rfl)) ?_
  refine R_nil ?_
  obtain rfl := rt (v := out) h
  refine T_ret (retq ?_ (.one (.tmp rfl (View.ownM rfl rfl D87))))
  rfl

theorem ok_layout_Cells {m : api_Map} {r : (List api_Cell) × Int} (h : layout_Cells m = some r) :
  CSpec Tryd.prog gl0 14 [.agg [.int .i64 m.Version, .sl 25 (List.map R25 m.Params)]] (.tuple [.sl 87 (List.map R87 r.1), .int .i64 r.2]) := by
 unfold layout_Cells at h
 replace h := bnd0 h
 refine spec_of (by kernel_rfl) Tryd.func14 rfl rfl ?_
 intro w0 A
 refine T_seq (T_reg ?_)
 refine R_q _ rfl (v_boxD (cva (ov rfl)) rfl tZ_50 rfl) ?_
 refine R_q _ rfl (v_assign (ov rfl)) ?_
 refine R_q _ rfl (v_assign (ov rfl)) ?_
 refine R_nil ?_
 refine T_seq ?_
 refine T_keep (kc 1 rfl <| kn) rfl ?_
 refine T_seq (T_reg ?_)
 refine R_q _ rfl (v_loadA_r (ov rfl) tA50 rfl rfl) ?_
 obtain ⟨y, h_y, h⟩ := bnd h
 refine R_q _ rfl (v_call (ok_layout_check h_y) (.cons (ov rfl) (.aggB rfl) <| .nil)) ?_
 refine R_q _ rfl (v_move (ov rfl)) ?_
 refine R_q _ rfl (v_extract (ov rfl) rfl) ?_
 refine R_q _ rfl (v_extract (ov rfl) rfl) ?_
 refine R_q _ rfl (v_assign (ov rfl)) ?_
 refine R_q _ rfl (v_assign (ov rfl)) ?_
 refine R_nil ?_
 refine T_keep (kc 1 rfl <| kc 5 rfl <| kn) rfl ?_
 refine T_seq (T_reg ?_)
 refine R_q _ rfl (v_move (ov rfl)) ?_
 refine R_q _ rfl (v_neq (ov rfl) (ov rfl)) ?_
 refine R_nil ?_
 refine T_keep (kc 1 rfl <| kc 5 rfl <| kc 12 rfl <| kn) rfl ?_
 refine T_if h rfl (fun b12 h => ?_) (fun b12 h => ?_)
 ·
  refine T_keep (kc 5 rfl <| kn) rfl ?_
  refine T_seq (T_reg ?_)
  refine R_q _ rfl (v_move (ov rfl)) ?_
  refine R_q _ rfl (v_assign (ov rfl)) ?_
  refine R_q _ rfl (v_assign (ov rfl)) ?_
  refine R_nil ?_
  obtain rfl := rt (v := ([], y.2)) h
  refine T_ret (retq ?_ (.two (.tmp rfl (View.nils 87)) (.tmp rfl (Dat.view (.b rfl)))))
  rfl
 ·
  refine T_skip ?_
  refine T_keep (kc 1 rfl <| kn) rfl ?_
  refine T_seq (T_reg ?_)
  refine R_q _ rfl (v_loadA_r (ov rfl) tA50 rfl rfl) ?_
  obtain ⟨y2, h_y2, h⟩ := bnd h
  refine R_q _ rfl (v_call (ok_layout_cells h_y2) (.cons (ov rfl) (.aggB rfl) <| .nil)) ?_
  refine R_q _ rfl (v_assign (ov rfl)) ?_
  refine R_q _ rfl (v_assign (ov rfl)) ?_
  refine R_nil ?_
  obtain rfl := rt (v := (y2, 0)) h
  refine T_ret (retq ?_ (.two (.tmp rfl (Dat.view (.b rfl))) (.tmp rfl (Dat.view (.b rfl)))))
  rfl

theorem ok_series_sampleTimes {p : api_Param} {cells : List api_Cell} {first : Int} {r : (List Int)} (h : series_sampleTimes p cells first = some r) :
  CSpec Tryd.prog gl0 15 [.agg [.str p.Name, .int .i64 p.Kind, .sl 113 (List.map R113 p.Parts), .int .i64 p.First, .int .i64 p.Every, .int .i64 p.Times, .int .i64 p.Step, .sl 9 (List.map R9 p.Names)], .sl 87 (List.map R87 cells), .int .i64 first] (.sl 3 (List.map R3 r)) := by
 unfold series_sampleTimes at h
 replace h := bnd0 h
 refine spec_of (by kernel_rfl) Tryd.func15 rfl rfl ?_
 intro w0 A
 refine T_seq (T_reg ?_)
 refine R_q _ rfl (v_boxD (cva (ov rfl)) rfl tZ_25 rfl) ?_
 refine R_q _ rfl (v_assign (ov rfl)) ?_
 refine R_nil ?_
 refine T_keep (kc 1 rfl <| kc 2 rfl <| kc 3 rfl <| kn) rfl ?_
 refine T_seq (T_reg ?_)
 refine R_q _ rfl (v_assign (ov rfl)) ?_
 refine R_nil ?_
 refine T_joinG id (t1 fun out => ⟨[(7, .own 0 out.length)], [some ⟨3, List.map R3 out⟩]⟩) h (fun h => ?_) (fun j h => ?_)
 ·
  refine T_seq (T_reg ?_)
  refine R_q _ rfl (v_move (ov rfl)) ?_
  refine R_q _ rfl (v_len (slv_sl (ov rfl) tZ_87) tL45 (len_map _ _)) ?_
  refine R_q _ rfl (v_move (ov rfl)) ?_
  refine R_nil ?_
  refine T_block ?_
  obtain ⟨r1, hl1, ho1⟩ := bndL h
  refine T_loopG _ (t2 fun out2 i => ⟨[(2, .int .i64 first), (3, .rp [.str p.Name, .int .i64 p.Kind, .sl 113 (List.map R113 p.Parts), .int .i64 p.First, .int .i64 p.Every, .int .i64 p.Times, .int .i64 p.Step, .sl 9 (List.map R9 p.Names)] 0), (7, .own 0 out2.length), (10, .sl 87 (List.map R87 cells)), (11, .int .i64 (cells.length : Int)), (12, .int .i64 i)], [some ⟨3, List.map R3 out2⟩]⟩) _ hl1 (Ent.sel [none] (sd 2 rfl rfl <| sd 3 rfl rfl <| sr 7 rfl (.row rfl) <| sd 10 rfl rfl <| sd 11 rfl rfl <| sd 12 rfl rfl <| sn) (.row 3 <| .nil) rfl rfl) (fun n1 s1 h => ?_)
  obtain ⟨out2, i⟩ := s1
  replace h := t2i h
  refine t2T ?_
  unfold series_sampleTimes_L1 at h
  refine T_seq (T_reg ?_)
  refine R_q _ rfl (v_lss (ov rfl) (ov rfl)) ?_
  refine R_nil ?_
  refine T_seq ?_
  refine T_if h rfl (fun b13 h => ?_) (fun b13 h => ?_)
  ·
   refine T_skip ?_
   refine T_seq ?_
   refine T_block ?_
   refine T_keep (kc 2 rfl <| kc 3 rfl <| kc 7 rfl <| kc 10 rfl <| kc 11 rfl <| kc 12 rfl <| kn) rfl ?_
   refine T_seq (T_reg ?_)
   obtain ⟨x, h_x, h⟩ := bnd h
   refine R_q _ rfl (v_ixSG (ov rfl) (ov rfl) tL45 h_x) ?_
   refine R_q _ rfl (v_loadA_r (ov rfl) tA87 rfl rfl) ?_
   refine R_w _ _ rfl (w_alloc (row := [_, _, _, _]) 1 rfl tZ87 rfl tZ_87) ?_
   refine R_w _ _ rfl (w_store (ov rfl) (ov rfl) (cells_agg tA87 rfl) rfl rfl rfl (Nat.le_of_ble_eq_true rfl) (cell1_all rfl) rfl) ?_
   refine R_nil ?_
   refine T_keep (kc 2 rfl <| kc 3 rfl <| kc 7 rfl <| kc 9 rfl <| kc 10 rfl <| kc 11 rfl <| kc 12 rfl <| kn) rfl ?_
   refine T_draw (cw := md0) (by kernel_rfl) ?_
   refine D_q0 0 _ rfl (by kernel_rfl) rfl rfl (v_move (ov rfl)) ?_
   refine D_q0 1 _ rfl (by kernel_rfl) rfl rfl (v_move (ov rfl)) ?_
   refine D_q0 2 _ rfl (by kernel_rfl) rfl rfl (v_fieldP (ov rfl) rfl rfl tF87_2) ?_
   refine D_q0 3 _ rfl (by kernel_rfl) rfl rfl (v_loadS (ov rfl) rfl rfl rfl tS3 rfl) ?_
   refine D_q0 4 _ rfl (by kernel_rfl) rfl rfl (v_add (ov rfl) (ov rfl) rfl) ?_
   refine D_q0 5 _ rfl (by kernel_rfl) rfl rfl (v_mul (ov rfl) (ov rfl) rfl) ?_
   refine D_q0 6 _ rfl (by kernel_rfl) rfl rfl (v_fieldP (ov rfl) rfl rfl tF87_1) ?_
   refine D_q0 7 _ rfl (by kernel_rfl) rfl rfl (v_loadS (ov rfl) rfl rfl rfl tS3 rfl) ?_
   refine D_q0 8 _ rfl (by kernel_rfl) rfl rfl (v_fieldR (ov rfl) tF25_5) ?_
   refine D_q0 9 _ rfl (by kernel_rfl) rfl rfl (v_loadS_r (ov rfl) tS3 rfl) ?_
   obtain ⟨q, h_q, h⟩ := bnd h
   refine D_q0 10 _ rfl (by kernel_rfl) rfl rfl (v_remG (ov rfl) (ov rfl) h_q) ?_
   refine D_q0 11 _ rfl (by kernel_rfl) rfl rfl (v_mul (ov rfl) (ov rfl) rfl) ?_
   refine D_q0 12 _ rfl (by kernel_rfl) rfl rfl (v_fieldR (ov rfl) tF25_5) ?_
   refine D_q0 13 _ rfl (by kernel_rfl) rfl rfl (v_loadS_r (ov rfl) tS3 rfl) ?_
   obtain ⟨q2, h_q2, h⟩ := bnd h
   refine D_q0 14 _ rfl (by kernel_rfl) rfl rfl (v_quoG (ov rfl) (ov rfl) h_q2) ?_
   refine D_q0 15 _ rfl (by kernel_rfl) rfl rfl (v_add (ov rfl) (ov rfl) rfl) ?_
   refine D_q0 16 (.sl 3 (List.map R3 ([(i64 ((i64 (64 * (i64 (first + x.Frame)))) + q2))] : List Int))) rfl (by kernel_rfl) rfl rfl (v_lit tL26 (.cons (cvs (ov rfl) (cell1_b rfl)) rfl (.cons (.b rfl) .nil) <| .nil) rfl rfl) ?_
   obtain ⟨l, h_l, h⟩ := bnd h
   refine D_one 17 _ _ rfl (by kernel_rfl) rfl rfl (fun h => by cases h) (fun h => by cases h) (w_appendG (ov rfl) (slv_sl (ov rfl) tZ_3) tL26 rfl rfl rfl (fun _ => cell1_all rfl) rfl h_l) ?_
   refine D_q0 18 _ rfl (by kernel_rfl) rfl rfl (v_assign (ov rfl)) ?_
   refine D_done (by kernel_rfl) ?_
   refine T_keep (kc 2 rfl <| kc 3 rfl <| kc 7 rfl <| kc 10 rfl <| kc 11 rfl <| kc 12 rfl <| kn) rfl ?_
   refine T_reg ?_
   refine R_q _ rfl (v_add (ov rfl) (ov rfl) rfl) ?_
   refine R_q _ rfl (v_move (ov rfl)) ?_
   refine R_nil ?_
   exact ⟨(l, (i64 (i + 1))), h, Ent.sel [some 0] (sd 2 rfl rfl <| sd 3 rfl rfl <| sr 7 rfl (.own _ rfl) <| sd 10 rfl rfl <| sd 11 rfl rfl <| sd 12 rfl rfl <| sn) (.cons rfl (roM D3) <| .nil) rfl rfl⟩
  ·
   refine T_exit ?_
   rw [lx h] at ho1
   replace h := ho1
   exact ⟨out2, h, Ent.sel [some 0] (sr 7 rfl (.own _ rfl) <| sn) (.cons rfl (roM D3) <| .nil) rfl rfl⟩
 ·
  obtain ⟨out, rfl⟩ : ∃ x, x = j := ⟨_, rfl⟩
  replace h := t1i h
  refine t1T ?_
  refine T_seq (T_reg ?_)
  refine R_q _ rfl (v_move (ov rfl)) ?_
  refine R_q _ rfl (v_assign (ov rfl)) ?_
  refine R_nil ?_
  obtain rfl := rt (v := out) h
  refine T_ret (retq ?_ (.one (.tmp rfl (View.ownM rfl rfl D3))))
  rfl

theorem ok_series_Times {p : api_Param} {first : Int} {r : (List Int) × Int} (h : series_Times p first = some r) :
  CSpec Tryd.prog gl0 5 [.agg [.str p.Name, .int .i64 p.Kind, .sl 113 (List.map R113 p.Parts), .int .i64 p.First, .int .i64 p.Every, .int .i64 p.Times, .int .i64 p.Step, .sl 9 (List.map R9 p.Names)], .int .i64 first] (.tuple [.sl 3 (List.map R3 r.1), .int .i64 r.2]) := by
 unfold series_Times at h
 replace h := bnd0 h
 refine spec_of (by kernel_rfl) Tryd.func5 rfl rfl ?_
 intro w0 A
 refine T_seq (T_reg ?_)
 refine R_q _ rfl (v_boxD (cva (ov rfl)) rfl tZ_25 rfl) ?_
 refine R_q _ rfl (v_assign (ov rfl)) ?_
 refine R_q _ rfl (v_assign (ov rfl)) ?_
 refine R_nil ?_
 refine T_seq ?_
 refine T_keep (kc 1 rfl <| kc 2 rfl <| kn) rfl ?_
 refine T_seq (T_reg ?_)
 refine R_q _ rfl (v_loadA_r (ov rfl) tA25 rfl rfl) ?_
 obtain ⟨y, h_y, h⟩ := bnd h
 refine R_q _ rfl (v_call (ok_layout_CheckParam h_y) (.cons (ov rfl) (.aggB rfl) <| .nil)) ?_
 refine R_q _ rfl (v_assign (ov rfl)) ?_
 refine R_nil ?_
 refine T_keep (kc 1 rfl <| kc 2 rfl <| kc 6 rfl <| kn) rfl ?_
 refine T_seq (T_reg ?_)
 refine R_q _ rfl (v_move (ov rfl)) ?_
 refine R_q _ rfl (v_neq (ov rfl) (ov rfl)) ?_
 refine R_nil ?_
 refine T_keep (kc 1 rfl <| kc 2 rfl <| kc 6 rfl <| kc 12 rfl <| kn) rfl ?_
 refine T_if h rfl (fun b12 h => ?_) (fun b12 h => ?_)
 ·
  refine T_keep (kc 6 rfl <| kn) rfl ?_
  refine T_seq (T_reg ?_)
  refine R_q _ rfl (v_move (ov rfl)) ?_
  refine R_q _ rfl (v_assign (ov rfl)) ?_
  refine R_q _ rfl (v_assign (ov rfl)) ?_
  refine R_nil ?_
  obtain rfl := rt (v := ([], y)) h
  refine T_ret (retq ?_ (.two (.tmp rfl (View.nils 3)) (.tmp rfl (Dat.view (.b rfl)))))
  rfl
 ·
  refine T_skip ?_
  refine T_seq ?_
  refine T_block ?_
  refine T_keep (kc 1 rfl <| kc 2 rfl <| kn) rfl ?_
  refine T_seq (T_reg ?_)
  refine R_q _ rfl (v_move (ov rfl)) ?_
  obtain ⟨y2, h_y2, h⟩ := bnd h
  refine R_q _ rfl (v_call (ok_series_within h_y2) (.cons (ov rfl) (.b rfl) <| .cons (ov rfl) (.b rfl) <| .cons (ov rfl) (.b rfl) <| .nil)) ?_
  refine R_q _ rfl (v_not (ov rfl)) ?_
  refine R_q _ rfl (v_assign (ov rfl)) ?_
  refine R_nil ?_
  refine T_keep (kc 1 rfl <| kc 2 rfl <| kc 14 rfl <| kn) rfl ?_
  refine T_if h rfl (fun b14 h => ?_) (fun b14 h => ?_)
  ·
   refine T_keep (kn) rfl ?_
   refine T_seq (T_reg ?_)
   refine R_q _ rfl (v_assign (ov rfl)) ?_
   refine R_q _ rfl (v_assign (ov rfl)) ?_
   refine R_nil ?_
   obtain rfl := rt (v := ([], 9)) h
   refine T_ret (retq ?_ (.two (.tmp rfl (View.nils 3)) (.tmp rfl (Dat.view (.b rfl)))))
   rfl
  ·
   refine T_keep (kc 1 rfl <| kc 2 rfl <| kn) rfl ?_
   refine T_seq (T_reg ?_)
   refine R_q _ rfl (v_move (ov rfl)) ?_
   obtain ⟨q, h_q, h⟩ := bnd h
   refine R_q _ rfl (v_remG (ov rfl) (ov rfl) h_q) ?_
   refine R_q _ rfl (v_neq (ov rfl) (ov rfl)) ?_
   refine R_q _ rfl (v_assign (ov rfl)) ?_
   refine R_nil ?_
   refine T_keep (kc 1 rfl <| kc 2 rfl <| kc 18 rfl <| kn) rfl ?_
   refine T_if h rfl (fun b18 h => ?_) (fun b18 h => ?_)
   ·
    refine T_keep (kn) rfl ?_
    refine T_seq (T_reg ?_)
    refine R_q _ rfl (v_assign (ov rfl)) ?_
    refine R_q _ rfl (v_assign (ov rfl)) ?_
    refine R_nil ?_
    obtain rfl := rt (v := ([], 2)) h
    refine T_ret (retq ?_ (.two (.tmp rfl (View.nils 3)) (.tmp rfl (Dat.view (.b rfl)))))
    rfl
   ·
    refine T_skip ?_
    refine T_keep (kc 1 rfl <| kc 2 rfl <| kn) rfl ?_
    refine T_seq (T_reg ?_)
    refine R_q _ rfl (v_loadA_r (ov rfl) tA25 rfl rfl) ?_
    refine R_q (.sl 25 (List.map R25 ([p] : List api_Param))) rfl (v_lit tL48 (.cons (cva (ov rfl)) rfl (pwD rfl) <| .nil) rfl rfl) ?_
    refine R_q _ rfl (v_build (ys := [_, _]) tPL50 tHA50 tZ50 (.cons (cvs (ov rfl) (cell1_b rfl)) <| .nil) rfl) ?_
    obtain ⟨y3, h_y3, h⟩ := bnd h
    refine R_q _ rfl (v_call (ok_layout_Cells h_y3) (.cons (ov rfl) (.aggB rfl) <| .nil)) ?_
    refine R_q _ rfl (v_move (ov rfl)) ?_
    refine R_q _ rfl (v_extract (ov rfl) rfl) ?_
    refine R_q _ rfl (v_extract (ov rfl) rfl) ?_
    refine R_q _ rfl (v_assign (ov rfl)) ?_
    refine R_q _ rfl (v_assign (ov rfl)) ?_
    refine R_nil ?_
    refine T_keep (kc 1 rfl <| kc 2 rfl <| kc 7 rfl <| kn) rfl ?_
    refine T_seq (T_reg ?_)
    refine R_q _ rfl (v_loadA_r (ov rfl) tA25 rfl rfl) ?_
    refine R_q _ rfl (v_move (ov rfl)) ?_
    refine R_q _ rfl (v_move (ov rfl)) ?_
    obtain ⟨y4, h_y4, h⟩ := bnd h
    refine R_q _ rfl (v_call (ok_series_sampleTimes h_y4) (.cons (ov rfl) (.aggB rfl) <| .cons (ov rfl) (.b rfl) <| .cons (ov rfl) (.b rfl) <| .nil)) ?_
    refine R_q _ rfl (v_assign (ov rfl)) ?_
    refine R_q _ rfl (v_assign (ov rfl)) ?_
    refine R_nil ?_
    obtain rfl := rt (v := (y4, 0)) h
    refine T_ret (retq ?_ (.two (.tmp rfl (Dat.view (.b rfl))) (.tmp rfl (Dat.view (.b rfl)))))
    rfl

theorem ok_istrconv_small {i : Int} {r : Str} (h : istrconv_small i = some r) :
  CSpec Tryd.prog gl0 155 [.int .i64 i] (.str r) := by
 unfold istrconv_small at h
 replace h := bnd0 h
 refine spec_of (by kernel_rfl) Tryd.func155 rfl rfl ?_
 intro w0 A
 refine T_seq (T_reg ?_)
 refine R_q _ rfl (v_assign (ov rfl)) ?_
 refine R_nil ?_
 refine T_seq ?_
 refine T_keep (kc 0 rfl <| kn) rfl ?_
 refine T_seq (T_reg ?_)
 refine R_q _ rfl (v_move (ov rfl)) ?_
 refine R_q _ rfl (v_lss (ov rfl) (ov rfl)) ?_
 refine R_nil ?_
 refine T_keep (kc 0 rfl <| kc 4 rfl <| kn) rfl ?_
 refine T_if h rfl (fun b4 h => ?_) (fun b4 h => ?_)
 ·
  refine T_keep (kc 0 rfl <| kn) rfl ?_
  refine T_seq (T_reg ?_)
  refine R_q _ rfl (v_move (ov rfl)) ?_
  refine R_q _ rfl (v_move (ov rfl)) ?_
  refine R_q _ rfl (v_add (ov rfl) (ov rfl) rfl) ?_
  obtain ⟨s, h_s, h⟩ := bnd h
  refine R_q _ rfl (v_sliceStrG (ov rfl) tStr9 (oi (ov rfl)) (oi (ov rfl)) h_s) ?_
  refine R_q _ rfl (v_assign (ov rfl)) ?_
  refine R_nil ?_
  obtain rfl := rt (v := s) h
  refine T_ret (retq ?_ (.one (.tmp rfl (Dat.view (.b rfl)))))
  rfl
 ·
  refine T_skip ?_
  refine T_keep (kc 0 rfl <| kn) rfl ?_
  refine T_seq (T_reg ?_)
  refine R_q _ rfl (v_move (ov rfl)) ?_
  refine R_q _ rfl (v_mul (ov rfl) (ov rfl) rfl) ?_
  refine R_q _ rfl (v_move (ov rfl)) ?_
  refine R_q _ rfl (v_mul (ov rfl) (ov rfl) rfl) ?_
  refine R_q _ rfl (v_add (ov rfl) (ov rfl) rfl) ?_
  obtain ⟨s2, h_s2, h⟩ := bnd h
  refine R_q _ rfl (v_sliceStrG (ov rfl) tStr9 (oi (ov rfl)) (oi (ov rfl)) h_s2) ?_
  refine R_q _ rfl (v_assign (ov rfl)) ?_
  refine R_nil ?_
  obtain rfl := rt (v := s2) h
  refine T_ret (retq ?_ (.one (.tmp rfl (Dat.view (.b rfl)))))
  rfl

theorem ok_numDigits {u r : Int} (h : numDigits u = some r) : CSpec Tryd.prog gl0 156 [.int .u64 u] (.int .i64 r) :=
 ok_numDigitsC (g := 1) (by kernel_rfl) (by kernel_rfl) (by simp [gl0]) (fun _ h1 h2 _ ht => Any.internal_strconv_numDigits Tryd.laysM284 _ h1 h2 _ ht) h

theorem ok_fmt10L {v r : Vector Int 24} {n : Nat} {u : Int} (h : fmt10 v n u = some r) :
  GSpec Tryd.prog gl0 157 [.osl 0 1 (0 + Int.toNat 0) n, .int .u64 u] [some ⟨206, [(List.map C5 v.toList)]⟩] (.tuple []) [some ⟨206, [(List.map C5 r.toList)]⟩] :=
 ok_fmt10 (by kernel_rfl) rfl tZ_206 (fun _ _ _ _ _ _ h1 h2 h3 h4 => Any.internal_strconv_formatBase10 Tryd.lays285 _ _ _ _ _ _ h1 h2 h3 h4) h

theorem ok_istrconv_AppendUint {dst_ : List Int} {i : Int} {base : Int} {r : (List Int)} (h : istrconv_AppendUint dst_ i base = some r) :
  GSpec Tryd.prog gl0 125 [.own 0 dst_.length, .int .u64 i, .int .i64 base] [some ⟨5, List.map R5 dst_⟩] (.own 0 r.length) [some ⟨5, List.map R5 r⟩] := by
 unfold istrconv_AppendUint at h
 replace h := bnd0 h
 refine gspec_of (by kernel_rfl) Tryd.func125 rfl rfl ?_
 intro w0 A W φ0
 refine T_seq (T_reg ?_)
 refine R_q _ rfl (v_assign (ov rfl)) ?_
 refine R_nil ?_
 refine T_seq ?_
 refine T_keep (kc 0 rfl <| kc 1 rfl <| kc 2 rfl <| kn) rfl ?_
 refine T_seq (T_reg ?_)
 refine R_q _ rfl (v_move (ov rfl)) ?_
 refine R_q _ rfl (v_eql (ov rfl) (ov rfl)) ?_
 refine R_nil ?_
 refine T_keep (kc 0 rfl <| kc 1 rfl <| kc 2 rfl <| kc 10 rfl <| kn) rfl ?_
 refine T_if h rfl (fun b10 h => ?_) (fun b10 h => ?_)
 ·
  refine T_seq ?_
  refine T_keep (kc 0 rfl <| kc 1 rfl <| kn) rfl ?_
  refine T_seq (T_reg ?_)
  refine R_q _ rfl (v_move (ov rfl)) ?_
  refine R_q _ rfl (v_lss (ov rfl) (ov rfl)) ?_
  refine R_nil ?_
  refine T_keep (kc 0 rfl <| kc 1 rfl <| kc 12 rfl <| kn) rfl ?_
  refine T_if h rfl (fun b12 h => ?_) (fun b12 h => ?_)
  ·
   refine T_keep (kc 0 rfl <| kc 1 rfl <| kn) rfl ?_
   refine T_seq (T_reg ?_)
   refine R_q _ rfl (v_move (ov rfl)) ?_
   refine R_q _ rfl (v_move (ov rfl)) ?_
   refine R_q _ rfl (v_conv (ov rfl) tI180 tI3 rfl) ?_
   obtain ⟨y, h_y, h⟩ := bnd h
   refine R_q _ rfl (v_call (ok_istrconv_small h_y) (.cons (ov rfl) (.b rfl) <| .nil)) ?_
   obtain ⟨l, h_l, h⟩ := bnd h
   refine R_w _ _ rfl (w_appendStrG (f := R5) (ov rfl) (ov rfl) tStr9 tL33 rfl rfl (fun _ => rfl) rfl h_l) ?_
   refine R_q _ rfl (v_assign (ov rfl)) ?_
   refine R_nil ?_
   obtain rfl := rt (v := l) h
   refine T_ret ?_
   exact retg [some 0] rfl (.cons (.tmp rfl) <| .nil) (.cons rfl (roM D5) <| .nil) rfl rfl (.own _ rfl)
  ·
   refine T_skip ?_
   refine T_keep (kc 0 rfl <| kc 1 rfl <| kn) rfl ?_
   refine T_seq (T_reg ?_)
   refine R_w _ _ rfl (w_alloc (row := (List.map C5 (Vector.replicate 24 0).toList)) 1 rfl tZ206 rfl tZ_206) ?_
   refine R_nil ?_
   refine T_seq (T_reg ?_)
   refine R_q _ rfl (v_move (ov rfl)) ?_
   obtain ⟨y2, h_y2, h⟩ := bnd h
   refine R_q _ rfl (v_call (ok_numDigits h_y2) (.cons (ov rfl) (.b rfl) <| .nil)) ?_
   refine R_q _ rfl (v_assign (ov rfl)) ?_
   refine R_nil ?_
   refine T_keep (kc 0 rfl <| kc 1 rfl <| kc 7 rfl <| kc 8 rfl <| kn) rfl ?_
   refine T_seq (T_reg ?_)
   refine R_q _ rfl (v_move (ov rfl)) ?_
   obtain ⟨l2, h_l2, h⟩ := bnd h
   refine R_q _ rfl (v_slArr (ov rfl) tR206 rfl rfl on (oi (ov rfl)) h_l2) ?_
   refine R_q _ rfl (v_move (ov rfl)) ?_
   obtain ⟨y3, h_y3, h⟩ := bnd h
   refine R_w _ _ rfl (w_callG [1] (ok_fmt10L h_y3) (.cons (ov rfl) (.osl _ _ _ rfl) <| .cons (ov rfl) (.dat rfl) <| .nil) (.cons rfl (ro1 (by exact Eq.trans (b := 24) arL tZ_206.symm) (rld (arD fun _ => rfl))) <| .nil) rfl (.keep rfl rfl <| .lent 0 (.inl rfl) rfl (ro1 (by exact Eq.trans (b := 24) arL tZ_206.symm) (rld (arD fun _ => rfl))) <| .nil) rfl rfl (rTup (rld rfl))) ?_
   refine R_nil ?_
   refine T_keep (kc 0 rfl <| kc 7 rfl <| kc 8 rfl <| kn) rfl ?_
   refine T_seq (T_reg ?_)
   refine R_q _ rfl (v_move (ov rfl)) ?_
   refine R_q _ rfl (v_move (ov rfl)) ?_
   obtain ⟨l3, h_l3, h⟩ := bnd h
   refine R_q _ rfl (v_slArr (ov rfl) tR206 rfl rfl on (oi (ov rfl)) h_l3) ?_
   obtain ⟨l4, h_l4, h⟩ := bnd h
   obtain ⟨l5, h_l5, h⟩ := bnd h
   refine R_w _ _ rfl (w_appendZ (f := R5) (ov rfl) (slv_osl (f := C5) (ov rfl) h_l4 rfl rfl) tL33 rfl rfl (fun _ => cell1_all rfl) rfl h_l5) ?_
   refine R_q _ rfl (v_assign (ov rfl)) ?_
   refine R_nil ?_
   obtain rfl := rt (v := l5) h
   refine T_ret ?_
   exact retg [some 0] rfl (.cons (.tmp rfl) <| .nil) (.cons rfl (roM D5) <| .nil) rfl rfl (.own _ rfl)
 ·
  refine T_skip ?_
  exact (noneB h).elim

theorem ok_istrconv_AppendInt {dst_ : List Int} {i : Int} {base : Int} {r : (List Int)} (h : istrconv_AppendInt dst_ i base = some r) :
  GSpec Tryd.prog gl0 100 [.own 0 dst_.length, .int .i64 i, .int .i64 base] [some ⟨5, List.map R5 dst_⟩] (.own 0 r.length) [some ⟨5, List.map R5 r⟩] := by
 unfold istrconv_AppendInt at h
 replace h := bnd0 h
 refine gspec_of (by kernel_rfl) Tryd.func100 rfl rfl ?_
 intro w0 A W φ0
 refine T_seq (T_reg ?_)
 refine R_q _ rfl (v_assign (ov rfl)) ?_
 refine R_nil ?_
 refine T_keep (kc 0 rfl <| kc 1 rfl <| kc 2 rfl <| kn) rfl ?_
 refine T_seq (T_reg ?_)
 refine R_q _ rfl (v_move (ov rfl)) ?_
 refine R_q _ rfl (v_conv (ov rfl) tI2 tI180 rfl) ?_
 refine R_q _ rfl (v_assign (ov rfl)) ?_
 refine R_nil ?_
 refine T_joinG id (t2 fun o u => ⟨[(0, .own 0 o.length), (2, .int .i64 base), (7, .int .u64 u)], [some ⟨5, List.map R5 o⟩]⟩) h (fun h => ?_) (fun j h => ?_)
 ·
  refine T_keep (kc 0 rfl <| kc 1 rfl <| kc 2 rfl <| kc 7 rfl <| kn) rfl ?_
  refine T_seq (T_reg ?_)
  refine R_q _ rfl (v_move (ov rfl)) ?_
  refine R_q _ rfl (v_lss (ov rfl) (ov rfl)) ?_
  refine R_nil ?_
  refine T_keep (kc 0 rfl <| kc 2 rfl <| kc 7 rfl <| kc 11 rfl <| kn) rfl ?_
  refine T_if h rfl (fun b11 h => ?_) (fun b11 h => ?_)
  ·
   refine T_keep (kc 0 rfl <| kc 2 rfl <| kc 7 rfl <| kn) rfl ?_
   refine T_seq (T_reg ?_)
   refine R_q _ rfl (v_move (ov rfl)) ?_
   refine R_q (.sl 5 (List.map R5 ([45] : List Int))) rfl (v_lit tL33 (.cons (cvs (ov rfl) (cell1_b rfl)) rfl (.cons (.b rfl) .nil) <| .nil) rfl rfl) ?_
   obtain ⟨l, h_l, h⟩ := bnd h
   refine R_w _ _ rfl (w_appendG (ov rfl) (slv_sl (ov rfl) tZ_5) tL33 rfl rfl rfl (fun _ => cell1_all rfl) rfl h_l) ?_
   refine R_q _ rfl (v_assign (ov rfl)) ?_
   refine R_nil ?_
   refine T_keep (kc 0 rfl <| kc 2 rfl <| kc 7 rfl <| kn) rfl ?_
   refine T_reg ?_
   refine R_q _ rfl (v_move (ov rfl)) ?_
   refine R_q _ rfl (v_neg (ov rfl) rfl) ?_
   refine R_q _ rfl (v_assign (ov rfl)) ?_
   refine R_nil ?_
   exact ⟨(l, (u64 (-(u64 i)))), h, Ent.sel [some 0] (sr 0 rfl (.own _ rfl) <| sd 2 rfl rfl <| sd 7 rfl rfl <| sn) (.cons rfl (roM D5) <| .nil) rfl rfl⟩
  ·
   refine T_skip ?_
   exact ⟨(dst_, (u64 i)), h, Ent.sel [some 0] (sr 0 rfl (.own _ rfl) <| sd 2 rfl rfl <| sd 7 rfl rfl <| sn) (.cons rfl (roM D5) <| .nil) rfl rfl⟩
 ·
  obtain ⟨o, u⟩ := j
  replace h := t2i h
  refine t2T ?_
  refine T_seq (T_reg ?_)
  refine R_q _ rfl (v_move (ov rfl)) ?_
  refine R_q _ rfl (v_move (ov rfl)) ?_
  refine R_q _ rfl (v_move (ov rfl)) ?_
  obtain ⟨y, h_y, h⟩ := bnd h
  refine R_w _ _ rfl (w_callG [0] (ok_istrconv_AppendUint h_y) (.cons (ov rfl) (.own _ rfl) <| .cons (ov rfl) (.dat rfl) <| .cons (ov rfl) (.dat rfl) <| .nil) (.cons rfl (roM D5) <| .nil) rfl (.lent 0 (.inl rfl) rfl (roM D5) <| .nil) rfl rfl (.own _ (.inl rfl))) ?_
  refine R_q _ rfl (v_assign (ov rfl)) ?_
  refine R_nil ?_
  obtain rfl := rt (v := y) h
  refine T_ret ?_
  exact retg [some 0] rfl (.cons (.tmp rfl) <| .nil) (.cons rfl (roM D5) <| .nil) rfl rfl (.own _ rfl)

theorem ok_strconv_AppendInt_o {dst_ : List Int} {i : Int} {base : Int} {r : (List Int)} (h : strconv_AppendInt dst_ i base = some r) :
  GSpec Tryd.prog gl0 72 [.own 0 dst_.length, .int .i64 i, .int .i64 base] [some ⟨5, List.map R5 dst_⟩] (.own 0 r.length) [some ⟨5, List.map R5 r⟩] := by
 unfold strconv_AppendInt at h
 replace h := bnd0 h
 refine gspec_of (by kernel_rfl) Tryd.func72 rfl rfl ?_
 intro w0 A W φ0
 refine T_seq (T_reg ?_)
 refine R_q _ rfl (v_assign (ov rfl)) ?_
 refine R_nil ?_
 refine T_seq (T_reg ?_)
 refine R_q _ rfl (v_move (ov rfl)) ?_
 refine R_q _ rfl (v_move (ov rfl)) ?_
 refine R_q _ rfl (v_move (ov rfl)) ?_
 obtain ⟨y, h_y, h⟩ := bnd h
 refine R_w _ _ rfl (w_callG [0] (ok_istrconv_AppendInt h_y) (.cons (ov rfl) (.own _ rfl) <| .cons (ov rfl) (.dat rfl) <| .cons (ov rfl) (.dat rfl) <| .nil) (.cons rfl (roM D5) <| .nil) rfl (.lent 0 (.inl rfl) rfl (roM D5) <| .nil) rfl rfl (.own _ (.inl rfl))) ?_
 refine R_q _ rfl (v_assign (ov rfl)) ?_
 refine R_nil ?_
 obtain rfl := rt (v := y) h
 refine T_ret ?_
 exact retg [some 0] rfl (.cons (.tmp rfl) <| .nil) (.cons rfl (roM D5) <| .nil) rfl rfl (.own _ rfl)

theorem ok_ref0_Ink_Int_w {k : ref0_Ink} {n : Int} {r : ref0_Ink} (h : ref0_Ink_Int k n = some r) :
  GSpec Tryd.prog gl0 42 [.ptr 0 1 0 0, .int .i64 n] [some ⟨54, [[.own 1 k.out.length]]⟩, some ⟨5, List.map R5 k.out⟩] (.tuple []) [some ⟨54, [[.own 2 r.out.length]]⟩, none, some ⟨5, List.map R5 r.out⟩] := by
 unfold ref0_Ink_Int at h
 replace h := bnd0 h
 refine gspec_of (by kernel_rfl) Tryd.func42 rfl rfl ?_
 intro w0 A W φ0
 refine T_ent (Ent.sel [some 0, some 1, some 1] (sr 0 rfl (.ptr (r' := 0) _ _ _ rfl) <| sd 1 rfl rfl <| sn) (.cons rfl (ro1 (by exact tZ_54.symm) (rlc (.own (r' := 2) _ rfl) <| rln)) <| .dead <| .cons rfl (roM D5) <| .nil) rfl rfl) ?_
 refine T_seq (T_reg ?_)
 refine R_q _ rfl (v_move (ov rfl)) ?_
 refine R_q _ rfl (v_move (ov rfl)) ?_
 refine R_q _ rfl (v_nilCheckP (ov rfl) rfl rfl) ?_
 refine R_q _ rfl (v_fieldP (ov rfl) rfl rfl tF54_0) ?_
 refine R_q _ rfl (v_loadS (ov rfl) rfl rfl rfl tS33 rfl) ?_
 refine R_q _ rfl (v_move (ov rfl)) ?_
 obtain ⟨y, h_y, h⟩ := bnd h
 refine R_w _ _ rfl (w_callG [2] (ok_strconv_AppendInt_o h_y) (.cons (ov rfl) (.own _ rfl) <| .cons (ov rfl) (.dat rfl) <| .cons (ov rfl) (.dat rfl) <| .nil) (.cons rfl (roM D5) <| .nil) rfl (.keep rfl rfl <| .none <| .lent 0 (.inl rfl) rfl (roM D5) <| .nil) rfl rfl (.own _ (.inl rfl))) ?_
 refine R_q _ rfl (v_nilCheckP (ov rfl) rfl rfl) ?_
 refine R_q _ rfl (v_fieldP (ov rfl) rfl rfl tF54_0) ?_
 refine R_w _ _ rfl (w_store (ov rfl) (ov rfl) (cells_scal tS33) rfl rfl rfl (Nat.le_of_ble_eq_true rfl) (cell1_all rfl) rfl) ?_
 refine R_nil ?_
 refine T_keep (kc 0 rfl <| kn) rfl ?_
 refine T_reg ?_
 refine R_q _ rfl (v_move (ov rfl)) ?_
 refine R_q _ rfl (v_move (ov rfl)) ?_
 refine R_q _ rfl (v_nilCheckP (ov rfl) rfl rfl) ?_
 refine R_q _ rfl (v_fieldP (ov rfl) rfl rfl tF54_0) ?_
 refine R_q _ rfl (v_loadS (ov rfl) rfl rfl rfl tS33 rfl) ?_
 refine R_q (.sl 5 (List.map R5 ([32] : List Int))) rfl (v_lit tL33 (.cons (cvs (ov rfl) (cell1_b rfl)) rfl (.cons (.b rfl) .nil) <| .nil) rfl rfl) ?_
 obtain ⟨l, h_l, h⟩ := bnd h
 refine R_w _ _ rfl (w_appendG (ov rfl) (slv_sl (ov rfl) tZ_5) tL33 rfl rfl rfl (fun _ => cell1_all rfl) rfl h_l) ?_
 refine R_q _ rfl (v_nilCheckP (ov rfl) rfl rfl) ?_
 refine R_q _ rfl (v_fieldP (ov rfl) rfl rfl tF54_0) ?_
 refine R_w _ _ rfl (w_store (ov rfl) (ov rfl) (cells_scal tS33) rfl rfl rfl (Nat.le_of_ble_eq_true rfl) (cell1_all rfl) rfl) ?_
 refine R_nil ?_
 obtain rfl := rt (v := (ref0_Ink.mk l)) h
 exact retgn [some 0, some 1, some 2] rfl (.nil) (.cons rfl (ro1 (by exact tZ_54.symm) (rlc (.own _ rfl) <| rln)) <| .dead <| .cons rfl (roM D5) <| .nil) rfl rfl (rTup (rln))

theorem ok_ref0_Ink_Ints_w {k : ref0_Ink} {l : List Int} {r : ref0_Ink} (h : ref0_Ink_Ints k l = some r) :
  GSpec Tryd.prog gl0 16 [.ptr 0 1 0 0, .sl 3 (List.map R3 l)] [some ⟨54, [[.own 1 k.out.length]]⟩, some ⟨5, List.map R5 k.out⟩] (.tuple []) [some ⟨54, [[.own 2 r.out.length]]⟩, none, some ⟨5, List.map R5 r.out⟩] := by
 unfold ref0_Ink_Ints at h
 replace h := bnd0 h
 refine gspec_of (by kernel_rfl) Tryd.func16 rfl rfl ?_
 intro w0 A W φ0
 refine T_ent (Ent.sel [some 0, some 1, some 1] (sr 0 rfl (.ptr (r' := 0) _ _ _ rfl) <| sd 1 rfl rfl <| sn) (.cons rfl (ro1 (by exact tZ_54.symm) (rlc (.own (r' := 2) _ rfl) <| rln)) <| .dead <| .cons rfl (roM D5) <| .nil) rfl rfl) ?_
 refine T_seq (T_reg ?_)
 refine R_q _ rfl (v_move (ov rfl)) ?_
 refine R_q _ rfl (v_move (ov rfl)) ?_
 refine R_q _ rfl (v_len (slv_sl (ov rfl) tZ_3) tL26 (len_map _ _)) ?_
 obtain ⟨y, h_y, h⟩ := bnd h
 refine R_w _ _ rfl (w_callG [0, 2] (ok_ref0_Ink_Int_w h_y) (.cons (ov rfl) (.ptr _ _ _ rfl) <| .cons (ov rfl) (.dat rfl) <| .nil) (.cons rfl (ro1 (by exact tZ_54.symm) (rlc (.own _ rfl) <| rln)) <| .cons rfl (roM D5) <| .nil) rfl (.lent 0 (.inl rfl) rfl (ro1 (by exact tZ_54.symm) (rlc (.own _ (.inr ⟨Nat.le_of_ble_eq_true rfl, rfl⟩)) <| rln)) <| .none <| .none <| .lent 2 (.inr ⟨Nat.le_of_ble_eq_true rfl, rfl⟩) rfl (roM D5) <| .nil) rfl rfl (rTup (rld rfl))) ?_
 refine R_nil ?_
 refine T_keep (kc 0 rfl <| kc 1 rfl <| kn) rfl ?_
 refine T_seq (T_reg ?_)
 refine R_q _ rfl (v_assign (ov rfl)) ?_
 refine R_nil ?_
 refine T_block ?_
 obtain ⟨r1, hl1, ho1⟩ := bndL h
 refine T_loopG _ (t2 fun out i => ⟨[(0, .ptr 0 1 0 0), (1, .sl 3 (List.map R3 l)), (4, .int .i64 i)], [some ⟨54, [[.own 2 out.length]]⟩, none, some ⟨5, List.map R5 out⟩]⟩) _ hl1 (Ent.sel [some 0, some 1, some 3] (sr 0 rfl (.ptr _ _ _ rfl) <| sd 1 rfl rfl <| sd 4 rfl rfl <| sn) (.cons rfl (ro1 (by exact tZ_54.symm) (rlc (.own _ rfl) <| rln)) <| .dead <| .cons rfl (roM D5) <| .nil) rfl rfl) (fun n1 s1 h => ?_)
 obtain ⟨out, i⟩ := s1
 replace h := t2i h
 refine t2T ?_
 unfold ref0_Ink_Ints_L1 at h
 refine T_seq ?_
 refine T_seq (T_reg ?_)
 refine R_q _ rfl (v_move (ov rfl)) ?_
 refine R_q _ rfl (v_move (ov rfl)) ?_
 refine R_q _ rfl (v_len (slv_sl (ov rfl) tZ_3) tL26 (len_map _ _)) ?_
 refine R_q _ rfl (v_lss (ov rfl) (ov rfl)) ?_
 refine R_nil ?_
 refine T_keep (kc 0 rfl <| kc 1 rfl <| kc 4 rfl <| kc 12 rfl <| kn) rfl ?_
 refine T_if h rfl (fun b12 h => ?_) (fun b12 h => ?_)
 ·
  refine T_skip ?_
  refine T_seq ?_
  refine T_block ?_
  refine T_keep (kc 0 rfl <| kc 1 rfl <| kc 4 rfl <| kn) rfl ?_
  refine T_reg ?_
  refine R_q _ rfl (v_move (ov rfl)) ?_
  refine R_q _ rfl (v_move (ov rfl)) ?_
  refine R_q _ rfl (v_move (ov rfl)) ?_
  obtain ⟨x, h_x, h⟩ := bnd h
  refine R_q _ rfl (v_ixSG (ov rfl) (ov rfl) tL26 h_x) ?_
  refine R_q _ rfl (v_loadS_r (ov rfl) tS3 rfl) ?_
  obtain ⟨y2, h_y2, h⟩ := bnd h
  refine R_w _ _ rfl (w_callG [0, 2] (ok_ref0_Ink_Int_w h_y2) (.cons (ov rfl) (.ptr _ _ _ rfl) <| .cons (ov rfl) (.dat rfl) <| .nil) (.cons rfl (ro1 (by exact tZ_54.symm) (rlc (.own _ rfl) <| rln)) <| .cons rfl (roM D5) <| .nil) rfl (.lent 0 (.inl rfl) rfl (ro1 (by exact tZ_54.symm) (rlc (.own _ (.inr ⟨Nat.le_of_ble_eq_true rfl, rfl⟩)) <| rln)) <| .none <| .none <| .lent 2 (.inr ⟨Nat.le_of_ble_eq_true rfl, rfl⟩) rfl (roM D5) <| .nil) rfl rfl (rTup (rld rfl))) ?_
  refine R_nil ?_
  refine T_keep (kc 0 rfl <| kc 1 rfl <| kc 4 rfl <| kn) rfl ?_
  refine T_reg ?_
  refine R_q _ rfl (v_move (ov rfl)) ?_
  refine R_q _ rfl (v_add (ov rfl) (ov rfl) rfl) ?_
  refine R_q _ rfl (v_assign (ov rfl)) ?_
  refine R_nil ?_
  exact ⟨(y2.out, (i64 (i + 1))), h, Ent.sel [some 0, some 1, some 3] (sr 0 rfl (.ptr _ _ _ rfl) <| sd 1 rfl rfl <| sd 4 rfl rfl <| sn) (.cons rfl (ro1 (by exact tZ_54.symm) (rlc (.own _ rfl) <| rln)) <| .dead <| .cons rfl (roM D5) <| .nil) rfl rfl⟩
 ·
  refine T_exit ?_
  rw [lx h] at ho1
  replace h := ho1
  obtain rfl := rt (v := (ref0_Ink.mk out)) h
  exact retgn [some 0, some 1, some 2] rfl (.nil) (.cons rfl (ro1 (by exact tZ_54.symm) (rlc (.own _ rfl) <| rln)) <| .dead <| .cons rfl (roM D5) <| .nil) rfl rfl (rTup (rln))

theorem ok_ref0_Ink_Errno_w {k : ref0_Ink} {e : Int} {r : ref0_Ink} (h : ref0_Ink_Errno k e = some r) :
  GSpec Tryd.prog gl0 17 [.ptr 0 1 0 0, .int .i64 e] [some ⟨54, [[.own 1 k.out.length]]⟩, some ⟨5, List.map R5 k.out⟩] (.tuple []) [some ⟨54, [[.own 2 r.out.length]]⟩, none, some ⟨5, List.map R5 r.out⟩] := by
 unfold ref0_Ink_Errno at h
 replace h := bnd0 h
 refine gspec_of (by kernel_rfl) Tryd.func17 rfl rfl ?_
 intro w0 A W φ0
 refine T_ent (Ent.sel [some 0, some 1, some 1] (sr 0 rfl (.ptr (r' := 0) _ _ _ rfl) <| sd 1 rfl rfl <| sn) (.cons rfl (ro1 (by exact tZ_54.symm) (rlc (.own (r' := 2) _ rfl) <| rln)) <| .dead <| .cons rfl (roM D5) <| .nil) rfl rfl) ?_
 refine T_reg ?_
 refine R_q _ rfl (v_move (ov rfl)) ?_
 refine R_q _ rfl (v_move (ov rfl)) ?_
 obtain ⟨y, h_y, h⟩ := bnd h
 refine R_w _ _ rfl (w_callG [0, 2] (ok_ref0_Ink_Int_w h_y) (.cons (ov rfl) (.ptr _ _ _ rfl) <| .cons (ov rfl) (.dat rfl) <| .nil) (.cons rfl (ro1 (by exact tZ_54.symm) (rlc (.own _ rfl) <| rln)) <| .cons rfl (roM D5) <| .nil) rfl (.lent 0 (.inl rfl) rfl (ro1 (by exact tZ_54.symm) (rlc (.own _ (.inr ⟨Nat.le_of_ble_eq_true rfl, rfl⟩)) <| rln)) <| .none <| .none <| .lent 2 (.inr ⟨Nat.le_of_ble_eq_true rfl, rfl⟩) rfl (roM D5) <| .nil) rfl rfl (rTup (rld rfl))) ?_
 refine R_nil ?_
 obtain rfl := rt (v := y) h
 exact retgn [some 0, some 1, some 3] rfl (.nil) (.cons rfl (ro1 (by exact tZ_54.symm) (rlc (.own _ rfl) <| rln)) <| .dead <| .cons rfl (roM D5) <| .nil) rfl rfl (rTup (rln))

theorem ok_ref0_Ink_Told_w {k : ref0_Ink} {r : Str} (h : ref0_Ink_Told k = some r) :
  GSpec Tryd.prog gl0 18 [.ptr 0 1 0 0] [some ⟨54, [[.own 1 k.out.length]]⟩, some ⟨5, List.map R5 k.out⟩] (.str r) [some ⟨54, [[.own 2 k.out.length]]⟩, none, some ⟨5, List.map R5 k.out⟩] := by
 unfold ref0_Ink_Told at h
 replace h := bnd0 h
 refine gspec_of (by kernel_rfl) Tryd.func18 rfl rfl ?_
 intro w0 A W φ0
 refine T_ent (Ent.sel [some 0, some 1, some 1] (sr 0 rfl (.ptr (r' := 0) _ _ _ rfl) <| sn) (.cons rfl (ro1 (by exact tZ_54.symm) (rlc (.own (r' := 2) _ rfl) <| rln)) <| .dead <| .cons rfl (roM D5) <| .nil) rfl rfl) ?_
 refine T_seq (T_reg ?_)
 refine R_q _ rfl (v_assign (ov rfl)) ?_
 refine R_nil ?_
 refine T_seq (T_reg ?_)
 refine R_q _ rfl (v_move (ov rfl)) ?_
 refine R_q _ rfl (v_nilCheckP (ov rfl) rfl rfl) ?_
 refine R_q _ rfl (v_fieldP (ov rfl) rfl rfl tF54_0) ?_
 refine R_q _ rfl (v_loadS (ov rfl) rfl rfl rfl tS33 rfl) ?_
 refine R_q _ rfl (v_strOf (f := R5) (slv_own (o := ⟨5, List.map R5 k.out⟩) (ov rfl) rfl (List.length_map ..) tZ_5) (fun _ => rfl) tL33 tStr9 tU85) ?_
 refine R_q _ rfl (v_assign (ov rfl)) ?_
 refine R_nil ?_
 obtain rfl := rt (v := (ofBytes k.out)) h
 refine T_ret ?_
 exact retg [some 0, some 1, some 2] rfl (.cons (.tmp rfl) <| .nil) (.cons rfl (ro1 (by exact tZ_54.symm) (rlc (.own _ rfl) <| rln)) <| .dead <| .cons rfl (roM D5) <| .nil) rfl rfl (.dat rfl)

theorem ok_law5_ints {l : List Int} {e : Int} {r : Str} (h : law5_ints l e = some r) :
  CSpec Tryd.prog gl0 6 [.sl 3 (List.map R3 l), .int .i64 e] (.str r) := by
 unfold law5_ints at h
 replace h := bnd0 h
 refine spec_of (by kernel_rfl) Tryd.func6 rfl rfl ?_
 intro w0 A
 refine T_seq (T_reg ?_)
 refine R_q _ rfl (v_assign (ov rfl)) ?_
 refine R_nil ?_
 refine T_keep (kc 0 rfl <| kc 1 rfl <| kn) rfl ?_
 refine T_seq (T_reg ?_)
 refine R_q _ rfl (v_build (ys := [_]) tPL54 tHA54 tZ54 (.nil) rfl) ?_
 refine R_w _ _ rfl (w_box 0 rfl (ov rfl) tA54 rfl) ?_
 refine R_q _ rfl (v_assign (ov rfl)) ?_
 refine R_nil ?_
 refine T_keep (kc 0 rfl <| kc 1 rfl <| kc 5 rfl <| kn) rfl ?_
 refine T_seq (T_reg ?_)
 refine R_q _ rfl (v_move (ov rfl)) ?_
 refine R_q _ rfl (v_move (ov rfl)) ?_
 obtain ⟨y, h_y, h⟩ := bnd h
 refine R_ent (Ent.sel [some 0, none] (sd 0 rfl rfl <| sd 1 rfl rfl <| sr 5 rfl (.ptr (r' := 0) _ _ _ rfl) <| sr 8 rfl (.ptr (r' := 0) _ _ _ rfl) <| sd 9 rfl rfl <| sn) (.cons rfl (ro1 (by exact tZ_54.symm) (rlc (.row (r' := 1) rfl) <| rln)) <| .row 5 <| .nil) rfl rfl) ?_
 refine R_w _ _ rfl (w_callG [0, 1] (ok_ref0_Ink_Ints_w h_y) (.cons (ov rfl) (.ptr _ _ _ rfl) <| .cons (ov rfl) (.dat rfl) <| .nil) (.cons rfl (ro1 (by exact tZ_54.symm) (rlc (.own _ rfl) <| rln)) <| .cons rfl (roE) <| .nil) rfl (.lent 0 (.inl rfl) rfl (ro1 (by exact tZ_54.symm) (rlc (.own _ (.inr ⟨Nat.le_of_ble_eq_true rfl, rfl⟩)) <| rln)) <| .none <| .lent 2 (.inr ⟨Nat.le_of_ble_eq_true rfl, rfl⟩) rfl (roM D5) <| .nil) rfl rfl (rTup (rld rfl))) ?_
 refine R_nil ?_
 refine T_keep (kc 1 rfl <| kc 5 rfl <| kn) rfl ?_
 refine T_seq (T_reg ?_)
 refine R_q _ rfl (v_move (ov rfl)) ?_
 refine R_q _ rfl (v_move (ov rfl)) ?_
 obtain ⟨y2, h_y2, h⟩ := bnd h
 refine R_w _ _ rfl (w_callG [0, 2] (ok_ref0_Ink_Errno_w h_y2) (.cons (ov rfl) (.ptr _ _ _ rfl) <| .cons (ov rfl) (.dat rfl) <| .nil) (.cons rfl (ro1 (by exact tZ_54.symm) (rlc (.own _ rfl) <| rln)) <| .cons rfl (roM D5) <| .nil) rfl (.lent 0 (.inl rfl) rfl (ro1 (by exact tZ_54.symm) (rlc (.own _ (.inr ⟨Nat.le_of_ble_eq_true rfl, rfl⟩)) <| rln)) <| .none <| .none <| .lent 2 (.inr ⟨Nat.le_of_ble_eq_true rfl, rfl⟩) rfl (roM D5) <| .nil) rfl rfl (rTup (rld rfl))) ?_
 refine R_nil ?_
 refine T_keep (kc 5 rfl <| kn) rfl ?_
 refine T_seq (T_reg ?_)
 refine R_q _ rfl (v_move (ov rfl)) ?_
 obtain ⟨y3, h_y3, h⟩ := bnd h
 refine R_w _ _ rfl (w_callG [0, 3] (ok_ref0_Ink_Told_w h_y3) (.cons (ov rfl) (.ptr _ _ _ rfl) <| .nil) (.cons rfl (ro1 (by exact tZ_54.symm) (rlc (.own _ rfl) <| rln)) <| .cons rfl (roM D5) <| .nil) rfl (.lent 0 (.inl rfl) rfl (ro1 (by exact tZ_54.symm) (rlc (.own _ (.inr ⟨Nat.le_of_ble_eq_true rfl, rfl⟩)) <| rln)) <| .none <| .none <| .none <| .lent 2 (.inr ⟨Nat.le_of_ble_eq_true rfl, rfl⟩) rfl (roM D5) <| .nil) rfl rfl (.dat rfl)) ?_
 refine R_q _ rfl (v_assign (ov rfl)) ?_
 refine R_nil ?_
 obtain rfl := rt (v := y3) h
 refine T_ret (retq ?_ (.one (.tmp rfl (Dat.view (.b rfl)))))
 rfl
end Go.Proofs.YtciaeohnkfnamaaDoor
