/- A text of the proof: a verified executor of the program form, or the contracts of the functions that the law reaches. -/
import Derived.Test.YtdacciininlfmaaGreatDoorVR
import Derived.Test.YtdacciininlfmaaGreatDoorShT
import Derived.Test.YtdacciininlfmaaGreatDoorProg
import Derived.Test.YtdacciininlfmaaGreatDoorLayT
set_option linter.all false
namespace Go.Proofs.YtdacciininlfmaaGreatDoor
open Go Go.Vx
set_option maxRecDepth 10000
set_option maxHeartbeats 1000000
set_option linter.unusedVariables false
theorem tZ_128 : Tryz.prog.cellsOf 128 = 4 := by kernel_rfl
instance : SzD Tryz.prog 128 4 := ⟨tZ_128⟩
theorem tZ_9 : Tryz.prog.cellsOf 9 = 1 := by kernel_rfl
instance : SzD Tryz.prog 9 1 := ⟨tZ_9⟩
theorem tZ_41 : Tryz.prog.cellsOf 41 = 8 := by kernel_rfl
instance : SzD Tryz.prog 41 8 := ⟨tZ_41⟩
theorem tZ_72 : Tryz.prog.cellsOf 72 = 4 := by kernel_rfl
instance : SzD Tryz.prog 72 4 := ⟨tZ_72⟩
theorem tZ_3 : Tryz.prog.cellsOf 3 = 1 := by kernel_rfl
instance : SzD Tryz.prog 3 1 := ⟨tZ_3⟩
theorem tZ_24 : Tryz.prog.cellsOf 24 = 2 := by kernel_rfl
instance : SzD Tryz.prog 24 2 := ⟨tZ_24⟩
theorem tZ_27 : Tryz.prog.cellsOf 27 = 4 := by kernel_rfl
instance : SzD Tryz.prog 27 4 := ⟨tZ_27⟩
theorem XX : tSl Tryz.prog 28 3 1 8 = true := by kernel_rfl
theorem tZ3 : QN Tryz.prog 3 = some [.int .i64 0] := by kernel_rfl
theorem tS3 : tScal Tryz.prog 3 = true := by kernel_rfl
theorem Zm1 : QN Tryz.prog 49 = some [.int .u16 0, .int .u16 0, .int .u16 0, .int .u16 0, .int .u16 0, .int .u16 0, .int .u16 0, .int .u16 0, .int .u16 0, .int .u16 0, .int .u16 0, .int .u16 0, .int .u16 0, .int .u16 0, .int .u16 0, .int .u16 0, .int .u16 0, .int .u16 0, .int .u16 0, .int .u16 0, .int .u16 0, .int .u16 0, .int .u16 0, .int .u16 0, .int .u16 0, .int .u16 0, .int .u16 0, .int .u16 0, .int .u16 0, .int .u16 0, .int .u16 0, .int .u16 0, .int .u16 0, .int .u16 0, .int .u16 0, .int .u16 0, .int .u16 0, .int .u16 0, .int .u16 0, .int .u16 0, .int .u16 0, .int .u16 0, .int .u16 0, .int .u16 0, .int .u16 0, .int .u16 0, .int .u16 0, .int .u16 0, .int .u16 0, .int .u16 0, .int .u16 0, .int .u16 0, .int .u16 0, .int .u16 0, .int .u16 0, .int .u16 0, .int .u16 0, .int .u16 0, .int .u16 0, .int .u16 0, .int .u16 0, .int .u16 0, .int .u16 0, .int .u16 0] := by kernel_rfl
theorem tZ_49 : Tryz.prog.cellsOf 49 = 64 := by kernel_rfl
instance : SzD Tryz.prog 49 64 := ⟨tZ_49⟩
theorem Zbd : tArr Tryz.prog 49 64 47 1 = true := by kernel_rfl
theorem ZfY : tAgg Tryz.prog 49 64 = true := by kernel_rfl
theorem tI3 : tInt Tryz.prog 3 .i64 = true := by kernel_rfl
theorem Zpb : tInt Tryz.prog 47 .u16 = true := by kernel_rfl
theorem Zfz : tStr Tryz.prog 9 = true := by kernel_rfl
theorem tI5 : tInt Tryz.prog 5 .u8 = true := by kernel_rfl
theorem Zbe : tScal Tryz.prog 47 = true := by kernel_rfl
theorem ZpY : tArr Tryz.prog 125 4 47 1 = true := by kernel_rfl
theorem tB4 : (match Tryz.prog.underlying 4 with | some .bool => true | _ => false) = true := by kernel_rfl
theorem Zfk : tAgg Tryz.prog 24 2 = true := by kernel_rfl
theorem ZjY : tFld Tryz.prog 24 0 0 = true := by kernel_rfl
theorem Jp : tFld Tryz.prog 24 1 1 = true := by kernel_rfl
theorem ZdK : tScal Tryz.prog 22 = true := by kernel_rfl
theorem ZaT : tSl Tryz.prog 22 41 8 104 = true := by kernel_rfl
theorem QW : tAgg Tryz.prog 41 8 = true := by kernel_rfl
theorem ZiS : QN Tryz.prog 41 = some [.string ⟨#[]⟩, .int .i64 0, .slice none 0 0, .int .i64 0, .int .i64 0, .int .i64 0, .int .i64 0, .slice none 0 0] := by kernel_rfl
theorem ZeS : tFld Tryz.prog 41 0 0 = true := by kernel_rfl
theorem tS9 : tScal Tryz.prog 9 = true := by kernel_rfl
theorem ZbZ : tFld Tryz.prog 41 1 1 = true := by kernel_rfl
theorem ZbK : tFld Tryz.prog 41 2 2 = true := by kernel_rfl
theorem Zgt : tScal Tryz.prog 38 = true := by kernel_rfl
theorem Zcs : tSl Tryz.prog 38 128 4 32 = true := by kernel_rfl
theorem Zbi : tAgg Tryz.prog 128 4 = true := by kernel_rfl
theorem Zgk : QN Tryz.prog 128 = some [.int .i64 0, .int .i64 0, .int .i64 0, .int .i64 0] := by kernel_rfl
theorem Zfc : tFld Tryz.prog 128 0 0 = true := by kernel_rfl
theorem Ze7 : tFld Tryz.prog 128 1 1 = true := by kernel_rfl
theorem Zfg : tFld Tryz.prog 128 2 2 = true := by kernel_rfl
theorem Ze9 : tFld Tryz.prog 128 3 3 = true := by kernel_rfl
theorem ZgL : tFld Tryz.prog 41 4 4 = true := by kernel_rfl
theorem ZjG : tFld Tryz.prog 41 3 3 = true := by kernel_rfl
theorem Zch : tFld Tryz.prog 41 5 5 = true := by kernel_rfl
theorem Zdl : tFld Tryz.prog 41 6 6 = true := by kernel_rfl
theorem ZbU : tFld Tryz.prog 41 7 7 = true := by kernel_rfl
theorem Zhg : tScal Tryz.prog 39 = true := by kernel_rfl
theorem ZdO : tSl Tryz.prog 39 9 1 16 = true := by kernel_rfl
theorem Zjx : tMap Tryz.prog 104 134 3 = true := by kernel_rfl
theorem Za7 : tSl Tryz.prog 30 44 4 48 = true := by kernel_rfl
theorem Zp0 : Zaw Tryz.prog 44 = some [(0, 1), (1, 1), (2, 1), (3, 1)] := by kernel_rfl
theorem Zqd : ZcZ Tryz.prog 44 = true := by kernel_rfl
theorem ZiO : QN Tryz.prog 44 = some [.int .i64 0, .int .i64 0, .int .i64 0, .slice none 0 0] := by kernel_rfl
theorem tZ_44 : Tryz.prog.cellsOf 44 = 4 := by kernel_rfl
instance : SzD Tryz.prog 44 4 := ⟨tZ_44⟩
theorem Zeu : tAgg Tryz.prog 44 4 = true := by kernel_rfl
theorem ZdW : tFld Tryz.prog 44 3 3 = true := by kernel_rfl
theorem Zjz : tScal Tryz.prog 42 = true := by kernel_rfl
theorem Zh1 : QN Tryz.prog 117 = some [.int .i64 0, .int .i64 0, .int .i64 0, .int .i64 0] := by kernel_rfl
theorem tZ_117 : Tryz.prog.cellsOf 117 = 4 := by kernel_rfl
instance : SzD Tryz.prog 117 4 := ⟨tZ_117⟩
theorem ZoT : Zaw Tryz.prog 117 = some [(0, 1), (1, 1), (2, 1), (3, 1)] := by kernel_rfl
theorem Zoz : ZcZ Tryz.prog 117 = true := by kernel_rfl
theorem Zeq : tAgg Tryz.prog 117 4 = true := by kernel_rfl
theorem ZhC : tSl Tryz.prog 42 117 4 32 = true := by kernel_rfl
theorem Zrs : ZlI Tryz.prog 134 [.i .i64, .i .i64, .i .i64] = true := by kernel_rfl
theorem Zln : Zi1 Tryz.prog 3 = some (.int .i64 0) := by kernel_rfl
theorem Ze8 : tFld Tryz.prog 117 3 3 = true := by kernel_rfl
theorem ZhU : tFld Tryz.prog 117 0 0 = true := by kernel_rfl
theorem ZgJ : tFld Tryz.prog 117 1 1 = true := by kernel_rfl
theorem Zgc : tFld Tryz.prog 117 2 2 = true := by kernel_rfl
theorem Zqu : Zaw Tryz.prog 134 = some [(0, 1), (1, 1), (2, 1)] := by kernel_rfl
theorem Zrg : ZcZ Tryz.prog 134 = true := by kernel_rfl
theorem Zp3 : QN Tryz.prog 134 = some [.int .i64 0, .int .i64 0, .int .i64 0] := by kernel_rfl
theorem Zl5 : tSl Tryz.prog 131 134 3 24 = true := by kernel_rfl
theorem tZ_134 : Tryz.prog.cellsOf 134 = 3 := by kernel_rfl
instance : SzD Tryz.prog 134 3 := ⟨tZ_134⟩
theorem Zmd : tAgg Tryz.prog 134 3 = true := by kernel_rfl
theorem tZ_104 : Tryz.prog.cellsOf 104 = 1 := by kernel_rfl
instance : SzD Tryz.prog 104 1 := ⟨tZ_104⟩
theorem ZgH : tAgg Tryz.prog 27 4 = true := by kernel_rfl
theorem Zlg : tFld Tryz.prog 27 0 0 = true := by kernel_rfl
theorem ZbB : tFld Tryz.prog 27 1 1 = true := by kernel_rfl
theorem ZgG : tScal Tryz.prog 25 = true := by kernel_rfl
theorem Zej : tSl Tryz.prog 25 72 4 32 = true := by kernel_rfl
theorem Ze2 : tAgg Tryz.prog 72 4 = true := by kernel_rfl
theorem ZmM : QN Tryz.prog 72 = some [.int .i64 0, .int .i64 0, .int .i64 0, .int .i64 0] := by kernel_rfl
theorem Zdh : tFld Tryz.prog 72 0 0 = true := by kernel_rfl
theorem Zde : tFld Tryz.prog 72 1 1 = true := by kernel_rfl
theorem ZbV : tFld Tryz.prog 72 2 2 = true := by kernel_rfl
theorem ZcM : tFld Tryz.prog 72 3 3 = true := by kernel_rfl
theorem Zez : tFld Tryz.prog 27 2 2 = true := by kernel_rfl
theorem ZeA : tFld Tryz.prog 27 3 3 = true := by kernel_rfl
theorem ZjZ : tMap Tryz.prog 109 147 4 = true := by kernel_rfl
theorem ZqB : tIntA Tryz.prog 147 3 3 .i64 = true := by kernel_rfl
theorem Zse : Zi1 Tryz.prog 4 = some (.bool false) := by kernel_rfl
theorem Zrz : tArr Tryz.prog 147 3 3 1 = true := by kernel_rfl
theorem Zp8 : QN Tryz.prog 147 = some [.int .i64 0, .int .i64 0, .int .i64 0] := by kernel_rfl
theorem tZ_147 : Tryz.prog.cellsOf 147 = 3 := by kernel_rfl
instance : SzD Tryz.prog 147 3 := ⟨tZ_147⟩
theorem ZoW : tAgg Tryz.prog 147 3 = true := by kernel_rfl
theorem tZ_109 : Tryz.prog.cellsOf 109 = 1 := by kernel_rfl
instance : SzD Tryz.prog 109 1 := ⟨tZ_109⟩
theorem Zgo : QN Tryz.prog 77 = some [.int .i64 0, .int .i64 0, .nilFunc, .nilFunc] := by kernel_rfl
theorem tZ_77 : Tryz.prog.cellsOf 77 = 4 := by kernel_rfl
instance : SzD Tryz.prog 77 4 := ⟨tZ_77⟩
theorem Zsf : QN Tryz.prog 74 = some [.nilFunc] := by kernel_rfl
theorem tZ_74 : Tryz.prog.cellsOf 74 = 1 := by kernel_rfl
instance : SzD Tryz.prog 74 1 := ⟨tZ_74⟩
theorem Zqx : tScal Tryz.prog 74 = true := by kernel_rfl
theorem ZrA : QN Tryz.prog 113 = some [.nilFunc] := by kernel_rfl
theorem tZ_113 : Tryz.prog.cellsOf 113 = 1 := by kernel_rfl
instance : SzD Tryz.prog 113 1 := ⟨tZ_113⟩
theorem Zms : tScal Tryz.prog 113 = true := by kernel_rfl
theorem Zb1 : tMap Tryz.prog 115 3 114 = true := by kernel_rfl
theorem tZ_115 : Tryz.prog.cellsOf 115 = 1 := by kernel_rfl
instance : SzD Tryz.prog 115 1 := ⟨tZ_115⟩
theorem Zhf : Zi1 Tryz.prog 114 = some .nilFunc := by kernel_rfl
theorem ZlK : Zaw Tryz.prog 77 = some [(0, 1), (1, 1), (2, 1), (3, 1)] := by kernel_rfl
theorem ZlW : ZcZ Tryz.prog 77 = true := by kernel_rfl
theorem ZbP : tAgg Tryz.prog 77 4 = true := by kernel_rfl
theorem Zox : tFld Tryz.prog 77 0 0 = true := by kernel_rfl
theorem Zov : tFld Tryz.prog 77 1 1 = true := by kernel_rfl
theorem Zjy : tFld Tryz.prog 44 0 0 = true := by kernel_rfl
theorem Zr0 : tArr Tryz.prog 82 2 3 1 = true := by kernel_rfl
theorem Zsc : QN Tryz.prog 82 = some [.int .i64 0, .int .i64 0] := by kernel_rfl
theorem ZqC : QN Tryz.prog 50 = some (List.flatten (List.replicate 16 (List.flatten (List.replicate 64 [.int .u16 0])))) := by kernel_rfl
theorem tZ_50 : Tryz.prog.cellsOf 50 = 1024 := by kernel_rfl
instance : SzD Tryz.prog 50 1024 := ⟨tZ_50⟩
theorem ZpE : QN Tryz.prog 84 = some [.slice none 0 0, .slice none 0 0, .slice none 0 0, .slice none 0 0, .slice none 0 0, .slice none 0 0, .slice none 0 0, .slice none 0 0, .slice none 0 0, .slice none 0 0, .slice none 0 0, .slice none 0 0, .slice none 0 0, .slice none 0 0, .slice none 0 0, .slice none 0 0] := by kernel_rfl
theorem tZ_84 : Tryz.prog.cellsOf 84 = 16 := by kernel_rfl
instance : SzD Tryz.prog 84 16 := ⟨tZ_84⟩
theorem ZgO : tAgg Tryz.prog 84 16 = true := by kernel_rfl
theorem Zpc : tArr Tryz.prog 84 16 28 1 = true := by kernel_rfl
theorem Zo9 : tScal Tryz.prog 28 = true := by kernel_rfl
theorem ZqU : tFld Tryz.prog 77 2 2 = true := by kernel_rfl
theorem Zgb : tAgg Tryz.prog 50 1024 = true := by kernel_rfl
theorem ZrP : tArr Tryz.prog 50 16 49 64 = true := by kernel_rfl
theorem ZrO : Zaw Tryz.prog 92 = some [(0, 1), (1, 64), (65, 64), (129, 1), (130, 1), (131, 1)] := by kernel_rfl
theorem Zru : ZcZ Tryz.prog 92 = true := by kernel_rfl
theorem ZpS : QN Tryz.prog 92 = some ([.int .i64 0] ++ (List.flatten (List.replicate 64 [.int .u16 0])) ++ (List.flatten (List.replicate 64 [.int .i64 0])) ++ [.bool false, .int .i64 0, .bool false]) := by kernel_rfl
theorem tZ_92 : Tryz.prog.cellsOf 92 = 132 := by kernel_rfl
instance : SzD Tryz.prog 92 132 := ⟨tZ_92⟩
theorem ZhI : tAgg Tryz.prog 92 132 = true := by kernel_rfl
theorem Zg4 : tFld Tryz.prog 92 2 65 = true := by kernel_rfl
theorem ZmV : tArr Tryz.prog 90 64 3 1 = true := by kernel_rfl
theorem ZdX : tSl Tryz.prog 58 92 132 672 = true := by kernel_rfl
theorem Zem : QN Tryz.prog 55 = some [.int .i64 0, .slice none 0 0] := by kernel_rfl
theorem tZ_55 : Tryz.prog.cellsOf 55 = 2 := by kernel_rfl
instance : SzD Tryz.prog 55 2 := ⟨tZ_55⟩
theorem ZfC : Zaw Tryz.prog 55 = some [(0, 1), (1, 1)] := by kernel_rfl
theorem Zfv : ZcZ Tryz.prog 55 = true := by kernel_rfl
theorem ZaG : tAgg Tryz.prog 55 2 = true := by kernel_rfl
theorem Zd0 : tFld Tryz.prog 92 0 0 = true := by kernel_rfl
theorem Zsm : tAgg Tryz.prog 90 64 = true := by kernel_rfl
theorem Ziq : tFld Tryz.prog 92 1 1 = true := by kernel_rfl
theorem ZjF : tFld Tryz.prog 92 3 129 = true := by kernel_rfl
theorem tS4 : tScal Tryz.prog 4 = true := by kernel_rfl
theorem ZnR : tFld Tryz.prog 92 4 130 = true := by kernel_rfl
theorem Zrp : tFld Tryz.prog 92 5 131 = true := by kernel_rfl
theorem Zrx : Zaw Tryz.prog 24 = some [(0, 1), (1, 1)] := by kernel_rfl
theorem ZrD : ZcZ Tryz.prog 24 = true := by kernel_rfl
theorem Zsj : QN Tryz.prog 24 = some [.int .i64 0, .slice none 0 0] := by kernel_rfl
theorem ZrF : QN Tryz.prog 119 = some (List.flatten (List.replicate 16 ([.int .i64 0] ++ (List.flatten (List.replicate 64 [.int .u16 0])) ++ (List.flatten (List.replicate 64 [.int .i64 0])) ++ [.bool false, .int .i64 0, .bool false]))) := by kernel_rfl
theorem tZ_119 : Tryz.prog.cellsOf 119 = 2112 := by kernel_rfl
instance : SzD Tryz.prog 119 2112 := ⟨tZ_119⟩
theorem ZpZ : tArr Tryz.prog 119 16 92 132 = true := by kernel_rfl
theorem Zra : tFld Tryz.prog 44 2 2 = true := by kernel_rfl
theorem Zqy : tFld Tryz.prog 44 1 1 = true := by kernel_rfl
theorem ZrN : tAgg Tryz.prog 119 2112 = true := by kernel_rfl
theorem Zo0 : Zne Tryz.prog 77 3 3 = true := by kernel_rfl
theorem XZ : tMap Tryz.prog 144 3 3 = true := by kernel_rfl
theorem ZlJ : Zaw Tryz.prog 62 = some [(0, 1), (1, 1), (2, 1)] := by kernel_rfl
theorem Zmb : ZcZ Tryz.prog 62 = true := by kernel_rfl
theorem Zk6 : QN Tryz.prog 62 = some [.int .i64 0, .int .i64 0, .int .i64 0] := by kernel_rfl
theorem Zds : tSl Tryz.prog 53 62 3 24 = true := by kernel_rfl
theorem tZ_62 : Tryz.prog.cellsOf 62 = 3 := by kernel_rfl
instance : SzD Tryz.prog 62 3 := ⟨tZ_62⟩
theorem Zbb : tFld Tryz.prog 55 1 1 = true := by kernel_rfl
theorem ZfN : tScal Tryz.prog 53 = true := by kernel_rfl
theorem Zn2 : tFld Tryz.prog 55 0 0 = true := by kernel_rfl
theorem ZiP : tAgg Tryz.prog 62 3 = true := by kernel_rfl
theorem Zic : tFld Tryz.prog 62 0 0 = true := by kernel_rfl
theorem Zf0 : tFld Tryz.prog 62 1 1 = true := by kernel_rfl
theorem ZcY : tFld Tryz.prog 62 2 2 = true := by kernel_rfl
theorem Zqm : (match Tryz.prog.underlying 53 with | some (.slice _) => true | _ => false) = true := by kernel_rfl
def gl0 : Gl := ⟨1, [(0, (gv_frame_syncs.toList.map fun z => Value.int .u16 z).toArray)]⟩
def Z2 (x : api_Part) : List AV := [.int .i64 x.Frame, .int .i64 x.Word, .int .i64 x.Low, .int .i64 x.Bits]
def R9 (x : Str) : List AV := [.str x]
def R41 (x : api_Param) : List AV := [.str x.Name, .int .i64 x.Kind, .sl 128 (List.map Z2 x.Parts), .int .i64 x.First, .int .i64 x.Every, .int .i64 x.Times, .int .i64 x.Step, .sl 9 (List.map R9 x.Names)]
def R72 (x : api_Line) : List AV := [.int .i64 x.From, .int .i64 x.To, .int .i64 x.A_, .int .i64 x.B]
def R3 (x : Int) : List AV := [.int .i64 x]
def C47 (x : Int) : AV := .int .u16 x
theorem D3 (x : Int) : (R3 x).length = Tryz.prog.cellsOf 3 ∧ (R3 x).all datB = true := ⟨tZ_3.symm, rfl⟩
instance : RowD Tryz.prog 3 R3 := ⟨D3⟩
def R117 (x : api_Place) : List AV := [.int .i64 x.Frame, .int .i64 x.Word, .int .i64 x.Low, .int .i64 x.Bits]
theorem D117 (x : api_Place) : (R117 x).length = Tryz.prog.cellsOf 117 ∧ (R117 x).all datB = true := ⟨tZ_117.symm, rfl⟩
instance : RowD Tryz.prog 117 R117 := ⟨D117⟩
def R44 (x : api_Cell) : List AV := [.int .i64 x.Param, .int .i64 x.Index, .int .i64 x.Frame, .sl 117 (List.map R117 x.Places)]
theorem D44 (x : api_Cell) : (R44 x).length = Tryz.prog.cellsOf 44 ∧ (R44 x).all datB = true := ⟨tZ_44.symm, rfl⟩
instance : RowD Tryz.prog 44 R44 := ⟨D44⟩
def XF (x : layout_bit) : AV := .agg [.int .i64 x.frame, .int .i64 x.word, .int .i64 x.bit]
theorem ZoJ : KeyOK Tryz.prog 134 XF kq_layout_bit := Zlo Zrs (fun _ => rfl)
def FV3 (x : Int) : AV := .int .i64 x
def R134 (x : layout_bit) : List AV := [.int .i64 x.frame, .int .i64 x.word, .int .i64 x.bit]
theorem D134 (x : layout_bit) : (R134 x).length = Tryz.prog.cellsOf 134 ∧ (R134 x).all datB = true := ⟨tZ_134.symm, rfl⟩
instance : RowD Tryz.prog 134 R134 := ⟨D134⟩
def C3 (x : Int) : AV := .int .i64 x
def Xj (x : Vector Int 3) : AV := .agg (List.map C3 x.toList)
theorem ZoS : KeyOK Tryz.prog 147 Xj kqV := Zpf (fun _ => rfl) ZqB
def FV4 (x : Bool) : AV := .bool x
def FK3 (x : Int) : AV := .int .i64 x
theorem ZaS : KeyOK Tryz.prog 3 FK3 kqI := ZpL (fun _ => rfl) tI3
def Zcp (x : Fv (Int → Option Int)) : Prop := x.c.all datB = true ∧ ∀ z0 r, x.fn z0 = some r → CSpec Tryz.prog gl0 x.f ([.int .i64 z0] ++ x.c) (.int .i64 r)
def Zcr (x : Fv (Int → Option (Int × Bool))) : Prop := x.c.all datB = true ∧ ∀ z0 r, x.fn z0 = some r → CSpec Tryz.prog gl0 x.f ([.int .i64 z0] ++ x.c) (.tuple [.int .i64 r.1, .bool r.2])
def R49 (x : Vector Int 64) : List AV := (List.map C47 x.toList)
theorem D49 (x : Vector Int 64) : (R49 x).length = Tryz.prog.cellsOf 49 ∧ (R49 x).all datB = true := ⟨Eq.trans (b := 64) arL tZ_49.symm, (arD fun _ => rfl)⟩
instance : RowD Tryz.prog 49 R49 := ⟨D49⟩
def C28 (x : List Int) : AV := .sl 3 (List.map R3 x)
theorem E49 (x : Vector Int 64) : (R49 x).all c1B = true := (arC fun _ => rfl)
theorem at1 {a0 : AV} {v1 : Vector Int 64} {v2 : Vector Int 64} {a3 : AV} {a4 : AV} {a5 : AV} : At ((a0) :: ((List.map C47 v1.toList) ++ (((List.map C3 v2.toList) ++ ((a3) :: (a4) :: (a5) :: []))))) 0 1 ([a0]) := at0 (hdc (n := 0) hd0)
theorem pt2 {a0 : AV} {v1 : Vector Int 64} {v2 : Vector Int 64} {a3 : AV} {a4 : AV} {a5 : AV} {b0 : AV} : Put ((a0) :: ((List.map C47 v1.toList) ++ (((List.map C3 v2.toList) ++ ((a3) :: (a4) :: (a5) :: []))))) 0 ([b0]) ((b0) :: ((List.map C47 v1.toList) ++ (((List.map C3 v2.toList) ++ ((a3) :: (a4) :: (a5) :: []))))) := Zq9
theorem at3 {a0 : AV} {v1 : Vector Int 64} {v2 : Vector Int 64} {a3 : AV} {a4 : AV} {a5 : AV} : At ((a0) :: ((List.map C47 v1.toList) ++ (((List.map C3 v2.toList) ++ ((a3) :: (a4) :: (a5) :: []))))) 1 64 ((List.map C47 v1.toList)) := atc (o := 0) (at0 (hdw arL))
theorem pt4 {a0 : AV} {v1 : Vector Int 64} {v2 : Vector Int 64} {a3 : AV} {a4 : AV} {a5 : AV} {w1 : Vector Int 64} : Put ((a0) :: ((List.map C47 v1.toList) ++ (((List.map C3 v2.toList) ++ ((a3) :: (a4) :: (a5) :: []))))) 1 ((List.map C47 w1.toList)) ((a0) :: ((List.map C47 w1.toList) ++ (((List.map C3 v2.toList) ++ ((a3) :: (a4) :: (a5) :: []))))) := ZnO (o := 0) (Zr1 (Eq.trans arL (Eq.symm arL)))
theorem at5 {a0 : AV} {v1 : Vector Int 64} {v2 : Vector Int 64} {a3 : AV} {a4 : AV} {a5 : AV} : At ((a0) :: ((List.map C47 v1.toList) ++ (((List.map C3 v2.toList) ++ ((a3) :: (a4) :: (a5) :: []))))) 129 1 ([a3]) := atc (o := 128) (ata (m := 64) (o := 64) arL (ata (m := 64) (o := 0) arL (at0 (hdc (n := 0) hd0))))
theorem pt6 {a0 : AV} {v1 : Vector Int 64} {v2 : Vector Int 64} {a3 : AV} {a4 : AV} {a5 : AV} {b3 : AV} : Put ((a0) :: ((List.map C47 v1.toList) ++ (((List.map C3 v2.toList) ++ ((a3) :: (a4) :: (a5) :: []))))) 129 ([b3]) ((a0) :: ((List.map C47 v1.toList) ++ (((List.map C3 v2.toList) ++ ((b3) :: (a4) :: (a5) :: []))))) := ZnO (o := 128) (Znz (m := 64) (o := 64) arL (Znz (m := 64) (o := 0) arL (Zq9)))
theorem at7 {a0 : AV} {v1 : Vector Int 64} {v2 : Vector Int 64} {a3 : AV} {a4 : AV} {a5 : AV} : At ((a0) :: ((List.map C47 v1.toList) ++ (((List.map C3 v2.toList) ++ ((a3) :: (a4) :: (a5) :: []))))) 130 1 ([a4]) := atc (o := 129) (ata (m := 64) (o := 65) arL (ata (m := 64) (o := 1) arL (atc (o := 0) (at0 (hdc (n := 0) hd0)))))
theorem pt8 {a0 : AV} {v1 : Vector Int 64} {v2 : Vector Int 64} {a3 : AV} {a4 : AV} {a5 : AV} {b4 : AV} : Put ((a0) :: ((List.map C47 v1.toList) ++ (((List.map C3 v2.toList) ++ ((a3) :: (a4) :: (a5) :: []))))) 130 ([b4]) ((a0) :: ((List.map C47 v1.toList) ++ (((List.map C3 v2.toList) ++ ((a3) :: (b4) :: (a5) :: []))))) := ZnO (o := 129) (Znz (m := 64) (o := 65) arL (Znz (m := 64) (o := 1) arL (ZnO (o := 0) (Zq9))))
theorem ln9 {a0 : AV} {v1 : Vector Int 64} {v2 : Vector Int 64} {a3 : AV} {a4 : AV} {a5 : AV} : ((a0) :: ((List.map C47 v1.toList) ++ (((List.map C3 v2.toList) ++ ((a3) :: (a4) :: (a5) :: []))))).length = 132 := lnC (n := 131) (lnA (m := 64) (n := 67) arL (lnA (m := 64) (n := 3) arL (lnC (n := 2) (lnC (n := 1) (lnC (n := 0) (lnN))))))
theorem ZnJ {x0 : Int} {v1 : Vector Int 64} {v2 : Vector Int 64} {x3 : Bool} {x4 : Int} {x5 : Bool} : ((.int .i64 x0) :: ((List.map C47 v1.toList) ++ (((List.map C3 v2.toList) ++ ((.bool x3) :: (.int .i64 x4) :: (.bool x5) :: []))))).all c1B = true := alC rfl (alA (arC fun _ => rfl) (alA (arC fun _ => rfl) (alC rfl (alC rfl (alC rfl (alN))))))
theorem Zlm {a0 : AV} {v1 : Vector Int 64} {v2 : Vector Int 64} {a3 : AV} {a4 : AV} {a5 : AV} : At ((a0) :: ((List.map C47 v1.toList) ++ (((List.map C3 v2.toList) ++ ((a3) :: (a4) :: (a5) :: []))))) 65 64 ((List.map C3 v2.toList)) := atc (o := 64) (ata (m := 64) (o := 0) arL (at0 (hdw arL)))
theorem Zsb {a0 : AV} {v1 : Vector Int 64} {v2 : Vector Int 64} {a3 : AV} {a4 : AV} {a5 : AV} {w2 : Vector Int 64} : Put ((a0) :: ((List.map C47 v1.toList) ++ (((List.map C3 v2.toList) ++ ((a3) :: (a4) :: (a5) :: []))))) 65 ((List.map C3 w2.toList)) ((a0) :: ((List.map C47 v1.toList) ++ (((List.map C3 w2.toList) ++ ((a3) :: (a4) :: (a5) :: []))))) := ZnO (o := 64) (Znz (m := 64) (o := 0) arL (Zr1 (Eq.trans arL (Eq.symm arL))))
theorem ZrC {x0 : Int} {v1 : Vector Int 64} {v2 : Vector Int 64} {x3 : Bool} {x4 : Int} {x5 : Bool} : NS ((.int .i64 x0) :: ((List.map C47 v1.toList) ++ (((List.map C3 v2.toList) ++ ((.bool x3) :: (.int .i64 x4) :: (.bool x5) :: []))))) := nsC rfl (nsA (nsM fun _ => rfl) (nsA (nsM fun _ => rfl) (nsC rfl (nsC rfl (nsC rfl (nsR rfl))))))
theorem ZjC {x0 : Int} {v1 : Vector Int 64} {v2 : Vector Int 64} {x3 : Bool} {x4 : Int} {x5 : Bool} : ((.int .i64 x0) :: ((List.map C47 v1.toList) ++ (((List.map C3 v2.toList) ++ ((.bool x3) :: (.int .i64 x4) :: (.bool x5) :: []))))).all datB = true := alC rfl (alA (arD fun _ => rfl) (alA (arD fun _ => rfl) (alC rfl (alC rfl (alC rfl (alN))))))
def R92 (x : api_Rest) : List AV := (.int .i64 x.Number) :: ((List.map C47 x.Frame.toList) ++ (((List.map C3 x.States.toList) ++ ((.bool x.Sound) :: (.int .i64 x.Copies) :: (.bool x.Conflict) :: []))))
theorem E92 (x : api_Rest) : (R92 x).all c1B = true := ZnJ
theorem D92 (x : api_Rest) : (R92 x).length = Tryz.prog.cellsOf 92 ∧ (R92 x).all datB = true := ⟨Eq.trans (b := 132) ln9 tZ_92.symm, ZjC⟩
instance : RowD Tryz.prog 92 R92 := ⟨D92⟩
theorem Zsn {a0 : AV} {v1 : Vector Int 64} {v2 : Vector Int 64} {a3 : AV} {a4 : AV} {a5 : AV} : At ((a0) :: ((List.map C47 v1.toList) ++ (((List.map C3 v2.toList) ++ ((a3) :: (a4) :: (a5) :: []))))) 131 1 ([a5]) := atc (o := 130) (ata (m := 64) (o := 66) arL (ata (m := 64) (o := 2) arL (atc (o := 1) (atc (o := 0) (at0 (hdc (n := 0) hd0))))))
def R62 (x : api_Sample) : List AV := [.int .i64 x.At, .int .i64 x.N, .int .i64 x.Mark]
theorem D62 (x : api_Sample) : (R62 x).length = Tryz.prog.cellsOf 62 ∧ (R62 x).all datB = true := ⟨tZ_62.symm, rfl⟩
instance : RowD Tryz.prog 62 R62 := ⟨D62⟩
theorem Zfp {x : Int} {r : Int} (h : Jx x = some r) :
 CSpec Tryz.prog gl0 96 [.int .u16 x] (.int .i64 r) := by
 unfold Jx at h
 replace h := ZS h
 refine So Tryz.func96 Y fun w0 A=>Tr<|Ra Y<|Za<|Td md0<|D1 0 Zh Y<|bE h fun q h_q h=>Dq 1 Y (ZfF (ov Y) (ov Y) h_q)<|bE h fun b h_b h=>Dq 2 Y (Zer (ov Y) (ov Y) Zfz h_b)<|D1 3 Zh Y<|D2 4 Zcj Y<|bE h fun b2 h_b2 h=>Dq 5 Y (Zer (ov Y) (ov Y) Zfz h_b2)<|D2 6 ZT Y<|Dq 7 Y (Zh3 (ov Y) tI5 tI3 Y)<|D1 8 Zy Y<|Dd<|?_
 obtain rfl := rt h
 exact Zg (Zp Y (.one<|rb Y))
theorem Zct {w : Int} {r : Bool} (h : J4 w = some r) :
 CSpec Tryz.prog gl0 74 [.int .u16 w] (.bool r) := by
 unfold J4 at h
 replace h := ZS h
 refine So Tryz.func74 Y fun w0 A=>Tr<|Ra Y<|Za<|Tr<|Rm Y<|R2 ZbO Y<|Rm Y<|Rq Y (.guarded ((decide (w ≤ 4095)) == true) Y Y Y Y fun h => Zh<|ov Y)<|bE h fun y h_y h=>Rq Y (.guarded ((decide (w ≤ 4095)) == true) Y Y Y Y fun h => Zl (Zfp<|gdT h_y h)<|.cons (ow Y h) (.b Y) .nil)<|bE h fun q h_q h=>Rq Y (.guarded ((decide (w ≤ 4095)) == true) Y Y Y Y fun h => ZcH (ow Y h) (ov Y)<|gdT h_q h)<|Rq Y (.guarded ((decide (w ≤ 4095)) == true) Y Y Y Y fun h => Qb (ow Y h)<|ov Y)<|Rq Y (QC (ov Y) fun hp=>ow Y<|gT hp)<|Ra Y<|Za<|?_
 obtain rfl := rt h
 exact Zg (Zp Y (.one<|rb Y))
theorem J8 {data : Int} {r : Int} (h : QQ data = some r) :
 CSpec Tryz.prog gl0 40 [.int .i64 data] (.int .u16 r) := by
 unfold QQ at h
 replace h := ZS h
 refine So Tryz.func40 Y fun w0 A=>Tr<|Ra Y<|Za<|K1 0 Y<|Tr<|Rm Y<|Rq Y (Zh3 (ov Y) tI3 Zpb Y)<|Ra Y<|Za<|Zj<|K1 3 Y<|Tr<|Rm Y<|bE h fun y h_y h=>Rq Y (Zl (Zct h_y)<|.cons (ov Y) (.b Y) .nil)<|R1 Qa Y<|Za<|K2 3 8 Y<|If h Y (fun h=>?_) fun h=>?_
 ·
  refine K1 3 Y<|Zs<|Rm Y<|R2 Zjf Y<|Ra Y<|Za<|K1 3 Y<|Tr<|Rm Y<|Ra Y<|Za<|?_
  obtain rfl := rt h
  exact Zg (Zp Y (.one<|rb Y))
 ·
  refine Ze<|K1 3 Y<|Tr<|Rm Y<|Ra Y<|Za<|?_
  obtain rfl := rt h
  exact Zg (Zp Y (.one<|rb Y))
theorem J6 {w : Int} {r : Int} (h : Xv w = some r) :
 CSpec Tryz.prog gl0 97 [.int .u16 w] (.int .i64 r) := by
 unfold Xv at h
 replace h := ZS h
 refine So Tryz.func97 Y fun w0 A=>Tr<|Ra Y<|Za<|Tr<|Rm Y<|R2 Zcj Y<|Rq Y (Zh3 (ov Y) Zpb tI3 Y)<|Ra Y<|Za<|?_
 obtain rfl := rt h
 exact Zg (Zp Y (.one<|rb Y))
theorem ZbI {f : Vector Int 64} {r : Int} (h : QP f = some r) :
 CSpec Tryz.prog gl0 75 [.rp (List.map C47 f.toList) 0] (.int .i64 r) := by
 unfold QP at h
 replace h := ZS h
 refine So Tryz.func75 Y fun w0 A=>Tr<|Ra Y<|Za<|Td md0<|D1 0 Zh Y<|D1 1 XC Y<|bE h fun x h_x h=>Dq 2 Y (Zai (ov Y) (ov Y) Zbd h_x)<|Dq 3 Y (Zb (ov Y) Zbe<|Z9<|XY (o := 0) (o' := ((Int.toNat 1) * 1)) (ZC arL)<|Jt h_x)<|bE h fun y h_y h=>Dq 4 Y (Zl (J6 h_y)<|.cons (ov Y) (.b Y) .nil)<|D1 5 Zh Y<|D1 6 XC Y<|bE h fun x2 h_x2 h=>Dq 7 Y (Zai (ov Y) (ov Y) Zbd h_x2)<|Dq 8 Y (Zb (ov Y) Zbe<|Z9<|XY (o := 0) (o' := ((Int.toNat 2) * 1)) (ZC arL)<|Jt h_x2)<|bE h fun y2 h_y2 h=>Dq 9 Y (Zl (J6 h_y2)<|.cons (ov Y) (.b Y) .nil)<|bE h fun q h_q h=>Dq 10 Y (ZcK (ov Y) (ov Y) h_q)<|D2 11 Zjf Y<|D1 12 Zy Y<|Dd<|?_
 obtain rfl := rt h
 exact Zg (Zp Y (.one<|rb Y))
theorem ZeQ {f : Vector Int 64} {r : Int} (h : JB f = some r) :
 CSpec Tryz.prog gl0 76 [.rp (List.map C47 f.toList) 0] (.int .i64 r) := by
 unfold JB at h
 replace h := ZS h
 refine So Tryz.func76 Y fun w0 A=>Tr<|Ra Y<|Za<|K1 0 Y<|Tr<|Ra Y<|Za<|I1 (fun n=>⟨[(3, .int .i64 n)], []⟩) h (fun h=>?_) fun n h=>?_
 ·
  refine Tr<|Rm Y<|Za<|Zf<|?_
  obtain ⟨r1, hl1, ho1⟩ := Qg h
  refine L2 (fun n2 i=>⟨[(0, .rp (List.map C47 f.toList) 0), (3, .int .i64 n2), (5, .int .i64 i)], []⟩) hl1 (ES []) fun n1 n2 i h=>?_
  unfold XP at h
  refine Tr<|R2 ZA Y<|Za<|Zj<|If h Y (fun h=>?_) fun h=>?_
  ·
   exact Ze<|Zj<|Zf<|K3 0 3 5 Y<|Tr<|Rm Y<|Ra Y<|Za<|K4 0 3 4 5 Y<|Zs<|Rm Y<|Rm Y<|Rm Y<|R2 ZT Y<|R1 XC Y<|bE h fun x h_x h=>Rq Y (Zai (ov Y) (ov Y) Zbd h_x)<|Rq Y (Zb (ov Y) Zbe<|Z9<|XY (o := 0) (o' := ((i64 (i + 1)).toNat * 1)) (ZC arL)<|Jt h_x)<|bE h fun y h_y h=>Rq Y (Zl (J6 h_y)<|.cons (ov Y) (.b Y) .nil)<|R2 Zoi Y<|Ra Y<|Za<|K3 0 3 5 Y<|Zs<|R2 ZT Y<|Rm Y<|Za<|⟨_, h, ES []⟩
  ·
   refine Zu<|?_
   replace h := lx h ▸ ho1
   exact ⟨_, h, ES []⟩
 ·
  refine Tr<|Rm Y<|Ra Y<|Za<|?_
  obtain rfl := rt h
  exact Zg (Zp Y (.one<|rb Y))
theorem ZdH {f : Vector Int 64} {r : Int} (h : XE f = some r) :
 CSpec Tryz.prog gl0 77 [.rp (List.map C47 f.toList) 0] (.int .i64 r) := by
 unfold XE at h
 replace h := ZS h
 refine So Tryz.func77 Y fun w0 A=>Tr<|Ra Y<|Za<|K1 0 Y<|Tr<|Ra Y<|Za<|I1 (fun n=>⟨[(3, .int .i64 n)], []⟩) h (fun h=>?_) fun n h=>?_
 ·
  refine Tr<|Rm Y<|Za<|Zf<|?_
  obtain ⟨r1, hl1, ho1⟩ := Qg h
  refine L2 (fun n2 i=>⟨[(0, .rp (List.map C47 f.toList) 0), (3, .int .i64 n2), (7, .int .i64 i)], []⟩) hl1 (ES []) fun n1 n2 i h=>?_
  unfold Q2 at h
  refine Tr<|R2 ZA Y<|Za<|Zj<|If h Y (fun h=>?_) fun h=>?_
  ·
   refine Ze<|I1 (fun n3=>⟨[(0, .rp (List.map C47 f.toList) 0), (3, .int .i64 n3), (7, .int .i64 i)], []⟩) h (fun h=>?_) fun n3 h=>?_
   ·
    refine Zf<|K3 0 3 7 Y<|Tr<|Rm Y<|Ra Y<|Za<|K4 0 3 4 7 Y<|Tr<|Ra Y<|Za<|Zf<|?_
    obtain ⟨r2, hl2, ho2⟩ := Qg h
    refine L2 (fun n4 k=>⟨[(0, .rp (List.map C47 f.toList) 0), (3, .int .i64 n4), (4, .int .i64 i), (5, .int .i64 k), (7, .int .i64 i)], []⟩) hl2 (ES []) fun n2 n4 k h=>?_
    unfold QJ at h
    refine Zj<|Tr<|Rm Y<|R2 ZaX Y<|Za<|K6 0 3 4 5 7 11 Y<|If h Y (fun h=>?_) fun h=>?_
    ·
     refine Ze<|Zj<|Zf<|K5 0 3 4 5 7 Y<|Tr<|Rm Y<|R2 Zcj Y<|R2 Z4 Y<|Ra Y<|Za<|K6 0 3 4 5 6 7 Y<|Tr<|Rm Y<|bE h fun q h_q h=>Rq Y (ZcK (ov Y) (ov Y) h_q)<|R2 Zcj Y<|Ra Y<|Za<|K6 0 3 4 5 6 7 Y<|Tr<|Rm Y<|Rm Y<|Rm Y<|R1 XC Y<|bE h fun x h_x h=>Rq Y (Zai (ov Y) (ov Y) Zbd h_x)<|Rq Y (Zb (ov Y) Zbe<|Z9<|XY (o := 0) (o' := (i.toNat * 1)) (ZC arL)<|Jt h_x)<|Rm Y<|bE h fun q2 h_q2 h=>Rq Y (ZfF (ov Y) (ov Y) h_q2)<|R2 Zcj Y<|R2 Qb Y<|Rq Y (Zgp .neq (by simp) (ov Y) (ov Y) tB4)<|Za<|K6 0 3 4 5 7 30 Y<|If h Y (fun h=>?_) fun h=>?_
     ·
      exact K5 0 3 4 5 7 Y<|Zs<|Rm Y<|R2 Zoi Y<|Ra Y<|Za<|K5 0 3 4 5 7 Y<|Zs<|Rm Y<|R2 ZaI Y<|Ra Y<|Za<|⟨_, h, ES []⟩
     ·
      exact Ze<|K5 0 3 4 5 7 Y<|Zs<|Rm Y<|R2 ZaI Y<|Ra Y<|Za<|⟨_, h, ES []⟩
    ·
     refine Zu<|?_
     replace h := lx h ▸ ho2
     exact ⟨_, h, ES []⟩
   ·
    exact Zs<|R2 ZT Y<|Rm Y<|Za<|⟨_, h, ES []⟩
  ·
   refine Zu<|?_
   replace h := lx h ▸ ho1
   exact ⟨_, h, ES []⟩
 ·
  refine Tr<|Rm Y<|Ra Y<|Za<|?_
  obtain rfl := rt h
  exact Zg (Zp Y (.one<|rb Y))
theorem Zgs {f : Vector Int 64} {r : (Vector Int 64)} (h : JF f = some r) :
 GSpec Tryz.prog gl0 41 [.ptr 0 1 0 0] [some ⟨49, [(List.map C47 f.toList)]⟩] (.tuple []) [some ⟨49, [(List.map C47 r.toList)]⟩] := by
 unfold JF at h
 replace h := ZS h
 refine Zdx (by kernel_rfl) Tryz.func41 Y Y<|?_
 intro w0 A W φ0
 refine Td md0<|D1 0 Zh Y<|D1 1 Zh Y<|bE h fun y h_y h=>Dq 2 Y (Zf6 (ZbI h_y) .int<|.cons (ov Y) (View.ptr Y Y Y (pwB<|arD fun _ => Y) (hns := (nsM fun _ => Y))) .nil)<|bE h fun q h_q h=>Dq 3 Y (ZcH (ov Y) (ov Y) h_q)<|bE h fun x h_x h=>Dq 4 Y (Zai (og (v := gv_frame_syncs) (k := .u16) (f := C47) (by simp [gl0]) fun _=>Y) (ov Y) ZpY h_x)<|Dq 5 Y (Zb (ov Y) Zbe<|Z9<|XY (o := 0) (o' := (q.toNat * 1)) (ZC arL)<|Jt h_x)<|Dq 6 Y (Zb7 (ov Y) Y Y)<|bE h fun x2 h_x2 h=>Dq 7 Y (XM (ov Y) (ov Y) Zbd Y Y h_x2)<|Do 8 Y (Zo (ov Y) (ov Y) (ZL Zbe) Y Y Y (arB h_x2) (Zd Y)<|arS h_x2)<|Dd<|K1 0 Y<|Td md0<|D1 0 Zh Y<|D1 1 Zh Y<|bE h fun y2 h_y2 h=>Dq 2 Y (Zf6 (ZeQ h_y2) .int<|.cons (ov Y) (View.ptr Y Y Y (pwB<|arD fun _ => Y) (hns := (nsM fun _ => Y))) .nil)<|bE h fun y3 h_y3 h=>Dq 3 Y (Zl (J8 h_y3)<|.cons (ov Y) (.b Y) .nil)<|Dq 4 Y (Zb7 (ov Y) Y Y)<|bE h fun x3 h_x3 h=>Dq 5 Y (XM (ov Y) (ov Y) Zbd Y Y h_x3)<|Do 6 Y (Zo (ov Y) (ov Y) (ZL Zbe) Y Y Y (arB h_x3) (Zd Y)<|arS h_x3)<|Dd<|K1 0 Y<|Tr<|Rm Y<|bE h fun y4 h_y4 h=>Rq Y (Zf6 (ZdH h_y4) .int<|.cons (ov Y) (View.ptr Y Y Y (pwB<|arD fun _ => Y) (hns := (nsM fun _ => Y))) .nil)<|Ra Y<|Za<|K2 0 2 Y<|Zdm (cw := md0) (by kernel_rfl)<|D1 0 Zh Y<|D1 2 Zh Y<|bE h fun q2 h_q2 h=>Dq 3 Y (ZfF (ov Y) (ov Y) h_q2)<|bE h fun y5 h_y5 h=>Dq 4 Y (Zl (J8 h_y5)<|.cons (ov Y) (.b Y) .nil)<|D1 5 Zh Y<|D2 6 Zcj Y<|bE h fun y6 h_y6 h=>Dq 7 Y (Zl (J8 h_y6)<|.cons (ov Y) (.b Y) .nil)<|Dq 8 Y (Zb7 (ov Y) Y Y)<|bE h fun x4 h_x4 h=>Dq 9 Y (XM (ov Y) (ov Y) Zbd Y Y h_x4)<|Zbc 1 _ Y (by kernel_rfl) Y Y (fun hp'=>Zh<|ov Y)<|Dw 11 10 Y (Zb7 (ov Y) Y Y) (Zo (ov Y) (ov Y) (ZL Zbe) Y Y Y (arB h_x4) (Zd Y)<|arS h_x4) ?_ ?_
 ·
  refine Do 10 Y (Zo (ov Y) (ov Y) (ZL Zbe) Y Y Y (arB h_x4) (Zd Y)<|arS h_x4)<|bE h fun x5 h_x5 h=>Dq 12 Y (XM (ov Y) (ov Y) Zbd Y Y h_x5)<|Do 13 Y (Zo (ov Y) (ov Y) (ZL Zbe) Y Y Y (arB h_x5) (Zd Y)<|arS h_x5)<|Dd<|?_
  obtain rfl := rt h
  exact Zp2 [some 0] Y .nil (.cons Y (ro1 (by exact Eq.trans (b := 64) arL tZ_49.symm)<|rld<|arD fun _ => Y) .nil) Y Y<|Zpz rln
 ·
  refine Dq 11 Y (Zb7 (ov Y) Y Y)<|bE h fun x5 h_x5 h=>Dq 12 Y (XM (ov Y) (ov Y) Zbd Y Y h_x5)<|Do 13 Y (Zo (ov Y) (ov Y) (ZL Zbe) Y Y Y (arB h_x5) (Zd Y)<|arS h_x5)<|Dd<|?_
  obtain rfl := rt h
  exact Zp2 [some 0] Y .nil (.cons Y (ro1 (by exact Eq.trans (b := 64) arL tZ_49.symm)<|rld<|arD fun _ => Y) .nil) Y Y<|Zpz rln
theorem Zf7 {number : Int} {data : List Int} {r : (Vector Int 64) × Int} (h : J7 number data = some r) :
 CSpec Tryz.prog gl0 16 [.int .i64 number, .sl 3 (List.map R3 data)] (.tuple [.agg (List.map C47 r.1.toList), .int .i64 r.2]) := by
 unfold J7 at h
 replace h := ZS h
 refine So Tryz.func16 Y fun w0 A=>Tr<|Rx Y (Zr (row := (List.map C47 (Vector.replicate 64 0).toList)) 0 Y Zm1 Y tZ_49)<|Ra Y<|Za<|Zj<|K3 0 1 4 Y<|Tr<|Rm Y<|R2 ZA Y<|Rm Y<|Rq Y (.guarded ((decide (number < 0)) == false) Y Y Y Y fun h => Zh<|ov Y)<|Rq Y (.guarded ((decide (number < 0)) == false) Y Y Y Y fun h => ZaX (ow Y h)<|ov Y)<|Rq Y (Qi (ov Y) fun hp=>ow Y<|gF hp)<|Za<|K4 0 1 4 14 Y<|If h Y (fun h=>?_) fun h=>?_
 ·
  refine K1 4 Y<|Tr<|R_q (.agg<|List.map C47 (#v[0, 0, 0, 0, 0, 0, 0, 0, 0, 0, 0, 0, 0, 0, 0, 0, 0, 0, 0, 0, 0, 0, 0, 0, 0, 0, 0, 0, 0, 0, 0, 0, 0, 0, 0, 0, 0, 0, 0, 0, 0, 0, 0, 0, 0, 0, 0, 0, 0, 0, 0, 0, 0, 0, 0, 0, 0, 0, 0, 0, 0, 0, 0, 0] : Vector Int 64).toList) Y (Zey (ys := [_, _, _, _, _, _, _, _, _, _, _, _, _, _, _, _, _, _, _, _, _, _, _, _, _, _, _, _, _, _, _, _, _, _, _, _, _, _, _, _, _, _, _, _, _, _, _, _, _, _, _, _, _, _, _, _, _, _, _, _, _, _, _, _]) Zbd Zm1 .nil Y)<|Rx Y (Zo (ov Y) (ov Y) (Zm ZfY arL) Y Y Y (JD (ZC arL) arL) (Zd<|arC fun _ => Y)<|Jl<|Eq.trans arL<|Eq.symm arL)<|Ra Y<|Za<|?_
  obtain rfl := rt h
  exact Zg (Zp Y (.two (.agg Y Y Y Y ZfY (QD<|ZC arL) arL (pwB<|arD fun _ => Y) (hns := (nsM fun _ => Y)))<|rb Y))
 ·
  refine Ze<|Zj<|K3 0 1 4 Y<|Tr<|Rm Y<|Rl tZ_3 XX Y<|R2 Z4 Y<|Za<|K4 0 1 4 18 Y<|If h Y (fun h=>?_) fun h=>?_
  ·
   refine K1 4 Y<|Tr<|R_q (.agg<|List.map C47 (#v[0, 0, 0, 0, 0, 0, 0, 0, 0, 0, 0, 0, 0, 0, 0, 0, 0, 0, 0, 0, 0, 0, 0, 0, 0, 0, 0, 0, 0, 0, 0, 0, 0, 0, 0, 0, 0, 0, 0, 0, 0, 0, 0, 0, 0, 0, 0, 0, 0, 0, 0, 0, 0, 0, 0, 0, 0, 0, 0, 0, 0, 0, 0, 0] : Vector Int 64).toList) Y (Zey (ys := [_, _, _, _, _, _, _, _, _, _, _, _, _, _, _, _, _, _, _, _, _, _, _, _, _, _, _, _, _, _, _, _, _, _, _, _, _, _, _, _, _, _, _, _, _, _, _, _, _, _, _, _, _, _, _, _, _, _, _, _, _, _, _, _]) Zbd Zm1 .nil Y)<|Rx Y (Zo (ov Y) (ov Y) (Zm ZfY arL) Y Y Y (JD (ZC arL) arL) (Zd<|arC fun _ => Y)<|Jl<|Eq.trans arL<|Eq.symm arL)<|Ra Y<|Za<|?_
   obtain rfl := rt h
   exact Zg (Zp Y (.two (.agg Y Y Y Y ZfY (QD<|ZC arL) arL (pwB<|arD fun _ => Y) (hns := (nsM fun _ => Y)))<|rb Y))
  ·
   refine Ze<|K3 0 1 4 Y<|Tr<|Rx Y (Zr (row := (List.map C47 (Vector.replicate 64 0).toList)) 1 Y Zm1 Y tZ_49)<|Za<|Tr<|Rm Y<|R2 Zcj Y<|bE h fun y h_y h=>Rq Y (Zl (J8 h_y)<|.cons (ov Y) (.b Y) .nil)<|Rm Y<|bE h fun q h_q h=>Rq Y (ZfF (ov Y) (ov Y) h_q)<|bE h fun y2 h_y2 h=>Rq Y (Zl (J8 h_y2)<|.cons (ov Y) (.b Y) .nil)<|bE h fun x h_x h=>Rq Y (XM (ov Y) (ov Y) Zbd Y Y h_x)<|Rx Y (Zo (ov Y) (ov Y) (ZL Zbe) Y Y Y (arB h_x) (Zd Y)<|arS h_x)<|bE h fun x2 h_x2 h=>Rq Y (XM (ov Y) (ov Y) Zbd Y Y h_x2)<|Rx Y (Zo (ov Y) (ov Y) (ZL Zbe) Y Y Y (arB h_x2) (Zd Y)<|arS h_x2)<|Za<|J1 (fun j => (.inr j)) (fun f=>⟨[(4, .ptr 0 1 0 0), (6, .ptr 1 1 0 0)], [some ⟨49, [(List.map C47 (Vector.replicate 64 0).toList)]⟩, some ⟨49, [(List.map C47 f.toList)]⟩]⟩) h (fun h=>?_) fun f h=>?_
   ·
    refine K3 1 4 6 Y<|Tr<|Rm Y<|Rl tZ_3 XX Y<|Rm Y<|Za<|Zf<|?_
    obtain ⟨r1, hl1, ho1⟩ := Qg h
    refine L2 (fun f2 i=>⟨[(4, .ptr 0 1 0 0), (6, .ptr 1 1 0 0), (28, .sl 3 (List.map R3 data)), (29, .int .i64 (data.length : Int)), (30, .int .i64 i)], [some ⟨49, [(List.map C47 (Vector.replicate 64 0).toList)]⟩, some ⟨49, [(List.map C47 f2.toList)]⟩]⟩) hl1 (ES [some 0, some 1]) fun n1 f2 i h=>?_
    unfold Jf at h
    refine Tr<|R2 ZA Y<|Za<|Zj<|If h Y (fun h=>?_) fun h=>?_
    ·
     refine Ze<|Zj<|Zf<|K5 4 6 28 29 30 Y<|Tr<|Rm Y<|bE h fun x3 h_x3 h=>Rq Y (Zx (ov Y) (ov Y) XX h_x3)<|Rq Y (Zb (ov Y) tS3 Y)<|Ra Y<|Ra Y<|Za<|Zj<|K7 4 6 7 8 28 29 30 Y<|Tr<|Rm Y<|R2 ZA Y<|Rm Y<|Rq Y (.guarded ((decide (x3 < 0)) == false) Y Y Y Y fun h => Zh<|ov Y)<|Rq Y (.guarded ((decide (x3 < 0)) == false) Y Y Y Y fun h => Qq (ow Y h)<|ov Y)<|Rq Y (Qi (ov Y) fun hp=>ow Y<|gF hp)<|Za<|K8 4 6 7 8 28 29 30 40 Y<|If h Y (fun h=>?_) fun h=>?_
     ·
      refine K1 4 Y<|Tr<|R_q (.agg<|List.map C47 (#v[0, 0, 0, 0, 0, 0, 0, 0, 0, 0, 0, 0, 0, 0, 0, 0, 0, 0, 0, 0, 0, 0, 0, 0, 0, 0, 0, 0, 0, 0, 0, 0, 0, 0, 0, 0, 0, 0, 0, 0, 0, 0, 0, 0, 0, 0, 0, 0, 0, 0, 0, 0, 0, 0, 0, 0, 0, 0, 0, 0, 0, 0, 0, 0] : Vector Int 64).toList) Y (Zey (ys := [_, _, _, _, _, _, _, _, _, _, _, _, _, _, _, _, _, _, _, _, _, _, _, _, _, _, _, _, _, _, _, _, _, _, _, _, _, _, _, _, _, _, _, _, _, _, _, _, _, _, _, _, _, _, _, _, _, _, _, _, _, _, _, _]) Zbd Zm1 .nil Y)<|Rx Y (Zo (ov Y) (ov Y) (Zm ZfY arL) Y Y Y (JD (ZC arL) arL) (Zd<|arC fun _ => Y)<|Jl<|Eq.trans arL<|Eq.symm arL)<|Ra Y<|Za<|?_
      replace h := lx h ▸ ho1
      obtain rfl := rt h
      exact Zg (Zp Y (.two (.agg Y Y Y Y ZfY (QD<|ZC arL) arL (pwB<|arD fun _ => Y) (hns := (nsM fun _ => Y)))<|rb Y))
     ·
      exact Ze<|K7 4 6 7 8 28 29 30 Y<|Zs<|Rm Y<|R2 ZT Y<|Rm Y<|bE h fun y3 h_y3 h=>Rq Y (Zl (J8 h_y3)<|.cons (ov Y) (.b Y) .nil)<|bE h fun x4 h_x4 h=>Rq Y (XM (ov Y) (ov Y) Zbd Y Y h_x4)<|Rx Y (Zo (ov Y) (ov Y) (ZL Zbe) Y Y Y (arB h_x4) (Zd Y)<|arS h_x4)<|Za<|K5 4 6 28 29 30 Y<|Zs<|R2 ZT Y<|Rm Y<|Za<|⟨_, h, ES [some 0, some 1]⟩
    ·
     refine Zu<|?_
     replace h := lx h ▸ ho1
     exact ⟨_, h, ES [some 0, some 1]⟩
   ·
    replace h := elr h
    replace h := t1i h
    refine Tr<|bE h fun y4 h_y4 h=>Rx Y (ZcA [1] (Zgs h_y4) (.cons (ov Y) (.ptr _ _ _ Y) .nil) (.cons Y (ro1 (by exact Eq.trans (b := 64) arL tZ_49.symm)<|rld<|arD fun _ => Y) .nil) Y (.keep Y Y<|.lent 0 (.inl Y) Y (ro1 (by exact Eq.trans (b := 64) arL tZ_49.symm)<|rld<|arD fun _ => Y) .nil) Y Y<|Zpz<|rld Y)<|Za<|K2 4 6 Y<|Tr<|Rq Y (ZK (ov Y) Y Y Y ZfY (QD<|ZC arL) arL (hns := (nsM fun _ => Y)))<|Rx Y (Zo (ov Y) (ov Y) (Zm ZfY arL) Y Y Y (JD (ZC arL) arL) (Zd<|arC fun _ => Y)<|Jl<|Eq.trans arL<|Eq.symm arL)<|Ra Y<|Za<|?_
    obtain rfl := rt h
    exact Zg (Zp Y (.two (.agg Y Y Y Y ZfY (QD<|ZC arL) arL (pwB<|arD fun _ => Y) (hns := (nsM fun _ => Y)))<|rb Y))
theorem ZjU  {r : Bool} (h : ZcF  = some r) :
 CSpec Tryz.prog gl0 4 [] (.bool r) := by
 unfold ZcF at h
 replace h := ZS h
 refine So Tryz.func4 Y fun w0 A=>Tr<|Ra Y<|Za<|K0<|Tr<|bE h fun l h_l h=>Rx Y (ZlZ [none] (r := 0) (f := R3) (z0 := 0) Y (ov Y) (ov Y) XX Y tZ3 Y Y h_l)<|Ra Y<|Za<|K1 1 Y<|Tr<|Rm Y<|bE h fun x h_x h=>Rq Y (Zdq (ov Y) (ov Y) XX Y Y h_x)<|Rx Y (Zen (u' := 5) (ov Y) (ov Y) (ZL tS3) Y Y h_x Y (Zd Y) Y)<|Za<|K1 1 Y<|Tr<|Rm Y<|bE h fun y h_y h=>Rq Y (Zf6 (Zf7 h_y) (.tuple<|by simp only [List.mem_cons, List.not_mem_nil, or_false, forall_eq_or_imp, forall_eq]; exact ⟨(ZnN (fun _ => .int)), .int⟩)<|.cons (ov Y) (Dat.view<|.b Y)<|.cons (ov Y) (View.ownM Y ((List.length_set ..).trans Y) D3) .nil)<|Rm Y<|Rq Y (Zq (ov Y) Y)<|Rq Y (Zq (ov Y) Y)<|Rx Y (Zr (row := (List.map C47 (Vector.replicate 64 0).toList)) 1 Y Zm1 Y tZ_49)<|Rx Y (Zo (ov Y) (ov Y) (Zm ZfY arL) Y Y Y (JD (ZC arL) arL) (Zd<|arC fun _ => Y)<|Jl<|Eq.trans arL<|Eq.symm arL)<|Ra Y<|Za<|K2 2 3 Y<|Tr<|Rm Y<|R2 Qb Y<|Rm Y<|bE h fun x2 h_x2 h=>Rq Y (.guarded ((decide (y.2 = 0)) == true) Y Y Y Y fun h => XM (ov Y) (ov Y) Zbd Y Y<|gdT h_x2 h)<|Rq Y (.guarded ((decide (y.2 = 0)) == true) Y Y Y Y fun h => Zn (ow Y h) Y Y Y Zbe<|Z9<|XY (o := 0) (o' := ((Int.toNat 0) * 1)) (ZC arL)<|Jt<|gdT h_x2 h)<|Rq Y (.guarded ((decide (y.2 = 0)) == true) Y Y Y Y fun h => Qb (ow Y h)<|ov Y)<|Rq Y (QC (ov Y) fun hp=>ow Y<|gT hp)<|Rm Y<|bE h fun x3 h_x3 h=>Rq Y (.guarded (((decide (y.2 = 0)) && (decide (x2 = 2631))) == true) Y Y Y Y fun h => XM (ov Y) (ov Y) Zbd Y Y<|gdT h_x3 h)<|Rq Y (.guarded (((decide (y.2 = 0)) && (decide (x2 = 2631))) == true) Y Y Y Y fun h => Zn (ow Y h) Y Y Y Zbe<|Z9<|XY (o := 0) (o' := ((Int.toNat 1) * 1)) (ZC arL)<|Jt<|gdT h_x3 h)<|Rq Y (.guarded (((decide (y.2 = 0)) && (decide (x2 = 2631))) == true) Y Y Y Y fun h => Qb (ow Y h)<|ov Y)<|Rq Y (QC (ov Y) fun hp=>ow Y<|gT hp)<|Rm Y<|bE h fun x4 h_x4 h=>Rq Y (.guarded ((((decide (y.2 = 0)) && (decide (x2 = 2631))) && (decide (x3 = 2))) == true) Y Y Y Y fun h => XM (ov Y) (ov Y) Zbd Y Y<|gdT h_x4 h)<|Rq Y (.guarded ((((decide (y.2 = 0)) && (decide (x2 = 2631))) && (decide (x3 = 2))) == true) Y Y Y Y fun h => Zn (ow Y h) Y Y Y Zbe<|Z9<|XY (o := 0) (o' := ((Int.toNat 2) * 1)) (ZC arL)<|Jt<|gdT h_x4 h)<|Rq Y (.guarded ((((decide (y.2 = 0)) && (decide (x2 = 2631))) && (decide (x3 = 2))) == true) Y Y Y Y fun h => Qb (ow Y h)<|ov Y)<|Rq Y (QC (ov Y) fun hp=>ow Y<|gT hp)<|Rm Y<|bE h fun x5 h_x5 h=>Rq Y (.guarded (((((decide (y.2 = 0)) && (decide (x2 = 2631))) && (decide (x3 = 2))) && (decide (x4 = 1))) == true) Y Y Y Y fun h => XM (ov Y) (ov Y) Zbd Y Y<|gdT h_x5 h)<|Rq Y (.guarded (((((decide (y.2 = 0)) && (decide (x2 = 2631))) && (decide (x3 = 2))) && (decide (x4 = 1))) == true) Y Y Y Y fun h => Zn (ow Y h) Y Y Y Zbe<|Z9<|XY (o := 0) (o' := ((Int.toNat 3) * 1)) (ZC arL)<|Jt<|gdT h_x5 h)<|Rq Y (.guarded (((((decide (y.2 = 0)) && (decide (x2 = 2631))) && (decide (x3 = 2))) && (decide (x4 = 1))) == true) Y Y Y Y fun h => Qb (ow Y h)<|ov Y)<|Rq Y (QC (ov Y) fun hp=>ow Y<|gT hp)<|Ra Y<|Za<|?_
 obtain rfl := rt h
 exact Zg (Zp Y (.one<|rb Y))
theorem Qh {n : Int} {low : Int} {high : Int} {r : Bool} (h : Z6 n low high = some r) :
 CSpec Tryz.prog gl0 31 [.int .i64 n, .int .i64 low, .int .i64 high] (.bool r) := by
 unfold Z6 at h
 replace h := ZS h
 refine So Tryz.func31 Y fun w0 A=>Tr<|Ra Y<|Za<|Tr<|Rm Y<|Rm Y<|R2 ZaX Y<|Rm Y<|Rq Y (.guarded ((decide (low ≤ n)) == true) Y Y Y Y fun h => Zh<|ov Y)<|Rq Y (.guarded ((decide (low ≤ n)) == true) Y Y Y Y fun h => Zh<|ov Y)<|Rq Y (.guarded ((decide (low ≤ n)) == true) Y Y Y Y fun h => ZbO (ow Y h)<|ow Y h)<|Rq Y (QC (ov Y) fun hp=>ow Y<|gT hp)<|Ra Y<|Za<|?_
 obtain rfl := rt h
 exact Zg (Zp Y (.one<|rb Y))
theorem ZoE {s : Str} {f : Int → Option Bool} {r : Bool} {f_f : FuncId} {f_c : List AV} (f_d : f_c.all datB = true) (f_h : ∀ (z0 : Int) z, f z0 = some z → CSpec Tryz.prog gl0 f_f ([.int .i32 z0] ++ f_c) (.bool z)) (h : ZaL s f = some r) :
    CSpec Tryz.prog gl0 87 [.str s, .fn f_f f_c] (.bool r) :=
  ZhA (by kernel_rfl) (fun g lb eg p s w hp => Any.strings_ContainsFunc_grows Tryz.laysGw17 g lb eg p s w hp) f_d f_h h
theorem ZfU {c_ : Int} {r : Bool} (h : Za3 c_ = some r) :
 CSpec Tryz.prog gl0 88 [.int .i32 c_] (.bool r) := by
 unfold Za3 at h
 replace h := ZS h
 refine So Tryz.func88 Y fun w0 A=>Tr<|Ra Y<|Za<|Tr<|Rm Y<|R2 ZaX Y<|Rm Y<|Rq Y (.guarded ((decide (97 ≤ c_)) == true) Y Y Y Y fun h => Zh<|ov Y)<|Rq Y (.guarded ((decide (97 ≤ c_)) == true) Y Y Y Y fun h => ZbO (ow Y h)<|ov Y)<|Rq Y (QC (ov Y) fun hp=>ow Y<|gT hp)<|Rm Y<|Rq Y (.guarded (((decide (97 ≤ c_)) && (decide (c_ ≤ 122))) == false) Y Y Y Y fun h => Zh<|ov Y)<|Rq Y (.guarded (((decide (97 ≤ c_)) && (decide (c_ ≤ 122))) == false) Y Y Y Y fun h => ZaX (ow Y h)<|ov Y)<|Rq Y (.guarded (((decide (97 ≤ c_)) && (decide (c_ ≤ 122))) == false) Y Y Y Y fun h => Zh<|ow Y h)<|Rq Y (.guarded2 ((((decide (97 ≤ c_)) && (decide (c_ ≤ 122))) == false) && ((decide (48 ≤ c_)) == true)) Y Y Y Y fun h => Zh<|ov Y)<|Rq Y (.guarded2 ((((decide (97 ≤ c_)) && (decide (c_ ≤ 122))) == false) && ((decide (48 ≤ c_)) == true)) Y Y Y Y fun h => ZbO (ow Y h)<|ov Y)<|Rq Y (.guarded (((decide (97 ≤ c_)) && (decide (c_ ≤ 122))) == false) Y Y Y Y fun h => QC (ow Y h) fun hp=>ow Y<|gA h<|gT hp)<|Rq Y (Qi (ov Y) fun hp=>ow Y<|gF hp)<|Rm Y<|Rq Y (.guarded ((((decide (97 ≤ c_)) && (decide (c_ ≤ 122))) || ((decide (48 ≤ c_)) && (decide (c_ ≤ 57)))) == false) Y Y Y Y fun h => Zh<|ov Y)<|Rq Y (.guarded ((((decide (97 ≤ c_)) && (decide (c_ ≤ 122))) || ((decide (48 ≤ c_)) && (decide (c_ ≤ 57)))) == false) Y Y Y Y fun h => Qb (ow Y h)<|ov Y)<|Rq Y (Qi (ov Y) fun hp=>ow Y<|gF hp)<|R1 Qa Y<|Ra Y<|Za<|?_
 obtain rfl := rt h
 exact Zg (Zp Y (.one<|rb Y))
theorem ZdJ {s : Str} {r : Bool} (h : J9 s = some r) :
 CSpec Tryz.prog gl0 51 [.str s] (.bool r) := by
 unfold J9 at h
 replace h := ZS h
 refine So Tryz.func51 Y fun w0 A=>Tr<|Ra Y<|Za<|Zj<|K1 0 Y<|Tr<|Rm Y<|Rq Y (ZeZ (ov Y) Zfz Y)<|R2 ZA Y<|Rm Y<|Rq Y (.guarded ((decide ((s.length : Int) < 1)) == false) Y Y Y Y fun h => Zh<|ov Y)<|Rq Y (.guarded ((decide ((s.length : Int) < 1)) == false) Y Y Y Y fun h => ZeZ (ow Y h) Zfz Y)<|Rq Y (.guarded ((decide ((s.length : Int) < 1)) == false) Y Y Y Y fun h => Qq (ow Y h)<|ov Y)<|Rq Y (Qi (ov Y) fun hp=>ow Y<|gF hp)<|Rm Y<|Rq Y (.guarded (((decide ((s.length : Int) < 1)) || (decide (30 < (s.length : Int)))) == false) Y Y Y Y fun h => Zh<|ov Y)<|bE h fun b h_b h=>Rq Y (.guarded (((decide ((s.length : Int) < 1)) || (decide (30 < (s.length : Int)))) == false) Y Y Y Y fun h => Zer (ow Y h) (ov Y) Zfz<|gdT h_b h)<|Rq Y (.guarded (((decide ((s.length : Int) < 1)) || (decide (30 < (s.length : Int)))) == false) Y Y Y Y fun h => ZA (ow Y h)<|ov Y)<|Rq Y (Qi (ov Y) fun hp=>ow Y<|gF hp)<|Rm Y<|Rq Y (.guarded ((((decide ((s.length : Int) < 1)) || (decide (30 < (s.length : Int)))) || (decide (b < 97))) == false) Y Y Y Y fun h => Zh<|ov Y)<|bE h fun b2 h_b2 h=>Rq Y (.guarded ((((decide ((s.length : Int) < 1)) || (decide (30 < (s.length : Int)))) || (decide (b < 97))) == false) Y Y Y Y fun h => Zer (ow Y h) (ov Y) Zfz<|gdT h_b2 h)<|Rq Y (.guarded ((((decide ((s.length : Int) < 1)) || (decide (30 < (s.length : Int)))) || (decide (b < 97))) == false) Y Y Y Y fun h => Qq (ow Y h)<|ov Y)<|Rq Y (Qi (ov Y) fun hp=>ow Y<|gF hp)<|Za<|K2 0 20 Y<|If h Y (fun h=>?_) fun h=>?_
 ·
  refine K0<|Tr<|Ra Y<|Za<|?_
  obtain rfl := rt h
  exact Zg (Zp Y (.one<|rb Y))
 ·
  refine Ze<|K1 0 Y<|Tr<|Rm Y<|bE h fun y h_y h=>Rq Y (Zl (ZoE Y (fun z0 _ hz=>ZfU hz) h_y)<|.cons (ov Y) (.b Y)<|.cons (ov Y) .fn .nil)<|R1 Qa Y<|Ra Y<|Za<|?_
  obtain rfl := rt h
  exact Zg (Zp Y (.one<|rb Y))
theorem ZaD {p : api_Param} {r : Int} (h : Xb p = some r) :
 CSpec Tryz.prog gl0 54 [.agg [.str p.Name, .int .i64 p.Kind, .sl 128 (List.map Z2 p.Parts), .int .i64 p.First, .int .i64 p.Every, .int .i64 p.Times, .int .i64 p.Step, .sl 9 (List.map R9 p.Names)]] (.int .i64 r) := by
 unfold Xb at h
 replace h := ZS h
 refine So Tryz.func54 Y fun w0 A=>Tr<|Rq Y (ZD (cva<|ov Y) Y tZ_41 Y)<|Ra Y<|Za<|K1 1 Y<|Tr<|Ra Y<|Za<|I1 (fun n=>⟨[(3, .int .i64 n)], []⟩) h (fun h=>?_) fun n h=>?_
 ·
  refine Tr<|Rq Y (Zc (ov Y) ZbK)<|Rq Y (Zb (ov Y) Zgt Y)<|Rl tZ_128 Zcs Y<|Rm Y<|Za<|Zf<|?_
  obtain ⟨r1, hl1, ho1⟩ := Qg h
  refine L2 (fun n2 i=>⟨[(3, .int .i64 n2), (7, .sl 128 (List.map Z2 p.Parts)), (8, .int .i64 (p.Parts.length : Int)), (9, .int .i64 i)], []⟩) hl1 (ES []) fun n1 n2 i h=>?_
  unfold XI at h
  refine Tr<|R2 ZA Y<|Za<|Zj<|If h Y (fun h=>?_) fun h=>?_
  ·
   exact Ze<|Zj<|Zf<|K4 3 7 8 9 Y<|Tr<|bE h fun x h_x h=>Rq Y (Zx (ov Y) (ov Y) Zcs h_x)<|Rq Y (Zi (ov Y) Zbi Y Y)<|Rx Y (Zr (row := [_, _, _, _]) 0 Y Zgk Y tZ_128)<|Rx Y (Zo (ov Y) (ov Y) (Zm Zbi Y) Y Y Y (Nat.le_of_ble_eq_true Y) (Zd Y) Y)<|Za<|K5 3 5 7 8 9 Y<|Zs<|Rm Y<|Rq Y (Zk (ov Y) Y Y Ze9)<|Rq Y (Zn (ov Y) Y Y Y tS3 Y)<|R2 ZT Y<|Ra Y<|Za<|K4 3 7 8 9 Y<|Zs<|R2 ZT Y<|Rm Y<|Za<|⟨_, h, ES []⟩
  ·
   refine Zu<|?_
   replace h := lx h ▸ ho1
   exact ⟨_, h, ES []⟩
 ·
  refine Tr<|Rm Y<|Ra Y<|Za<|?_
  obtain rfl := rt h
  exact Zg (Zp Y (.one<|rb Y))
theorem ZdE {s : List Int} {v : Int} {r : Int} (h : X8 s v = some r) :
 CSpec Tryz.prog gl0 101 [.sl 3 (List.map R3 s), .int .i64 v] (.int .i64 r) := by
 unfold X8 at h
 replace h := ZS h
 refine So Tryz.func101 Y fun w0 A=>Tr<|Ra Y<|Za<|J0 (fun j => (.inr j)) ⟨[], []⟩ h (fun h=>?_) fun h=>?_
 ·
  refine K2 0 1 Y<|Tr<|Rm Y<|Rl tZ_3 XX Y<|Rm Y<|Za<|Zf<|?_
  obtain ⟨r1, hl1, ho1⟩ := Qg h
  refine L1 (fun i=>⟨[(0, .sl 3 (List.map R3 s)), (1, .int .i64 v), (7, .int .i64 (s.length : Int)), (8, .int .i64 i)], []⟩) hl1 (ES []) fun n1 i h=>?_
  unfold Qj at h
  refine Tr<|R2 ZA Y<|Za<|Zj<|If h Y (fun h=>?_) fun h=>?_
  ·
   refine Ze<|Zj<|Zf<|K4 0 1 7 8 Y<|Tr<|Rm Y<|Ra Y<|Za<|K5 0 1 5 7 8 Y<|Tr<|Rm Y<|Rm Y<|Rm Y<|bE h fun x h_x h=>Rq Y (Zx (ov Y) (ov Y) XX h_x)<|Rq Y (Zb (ov Y) tS3 Y)<|R2 Qb Y<|Za<|K6 0 1 5 7 8 16 Y<|If h Y (fun h=>?_) fun h=>?_
   ·
    refine K1 5 Y<|Tr<|Rm Y<|Ra Y<|Za<|?_
    replace h := lx h ▸ ho1
    obtain rfl := rt h
    exact Zg (Zp Y (.one<|rb Y))
   ·
    exact Ze<|K4 0 1 7 8 Y<|Zs<|R2 ZT Y<|Rm Y<|Za<|⟨_, h, ES []⟩
  ·
   refine Zu<|?_
   replace h := lx h ▸ ho1
   exact ⟨(), h, ES []⟩
 ·
  replace h := elr h
  replace h := t0i h
  refine Tr<|Ra Y<|Za<|?_
  obtain rfl := rt h
  exact Zg (Zp Y (.one<|rb Y))
theorem ZcR {s : List Int} {v : Int} {r : Bool} (h : QH s v = some r) :
 CSpec Tryz.prog gl0 89 [.sl 3 (List.map R3 s), .int .i64 v] (.bool r) := by
 unfold QH at h
 replace h := ZS h
 refine So Tryz.func89 Y fun w0 A=>Tr<|Ra Y<|Za<|Tr<|Rm Y<|Rm Y<|bE h fun y h_y h=>Rq Y (Zl (ZdE h_y)<|.cons (ov Y) (.b Y)<|.cons (ov Y) (.b Y) .nil)<|R2 ZaX Y<|Ra Y<|Za<|?_
 obtain rfl := rt h
 exact Zg (Zp Y (.one<|rb Y))
theorem ZeU {p : api_Param} {r : Int} (h : Jc p = some r) :
 CSpec Tryz.prog gl0 52 [.agg [.str p.Name, .int .i64 p.Kind, .sl 128 (List.map Z2 p.Parts), .int .i64 p.First, .int .i64 p.Every, .int .i64 p.Times, .int .i64 p.Step, .sl 9 (List.map R9 p.Names)]] (.int .i64 r) := by
 unfold Jc at h
 replace h := ZS h
 refine So Tryz.func52 Y fun w0 A=>Tr<|Rq Y (ZD (cva<|ov Y) Y tZ_41 Y)<|Ra Y<|Za<|Zj<|Zf<|K1 1 Y<|Tr<|Rq Y (Zc (ov Y) ZbK)<|Rq Y (Zb (ov Y) Zgt Y)<|Rl tZ_128 Zcs Y<|R2 Qb Y<|Ra Y<|Za<|K2 1 8 Y<|If h Y (fun h=>?_) fun h=>?_
 ·
  refine K0<|Tr<|Ra Y<|Za<|?_
  obtain rfl := rt h
  exact Zg (Zp Y (.one<|rb Y))
 ·
  refine K1 1 Y<|Tr<|Rq Y (Zc (ov Y) ZbK)<|Rq Y (Zb (ov Y) Zgt Y)<|Rl tZ_128 Zcs Y<|R2 Qq Y<|Ra Y<|Za<|K2 1 13 Y<|If h Y (fun h=>?_) fun h=>?_
  ·
   refine K0<|Tr<|Ra Y<|Za<|?_
   obtain rfl := rt h
   exact Zg (Zp Y (.one<|rb Y))
  ·
   refine Ze<|J0 (fun j => (.inr j)) ⟨[(1, .rp [.str p.Name, .int .i64 p.Kind, .sl 128 (List.map Z2 p.Parts), .int .i64 p.First, .int .i64 p.Every, .int .i64 p.Times, .int .i64 p.Step, .sl 9 (List.map R9 p.Names)] 0)], []⟩ h (fun h=>?_) fun h=>?_
   ·
    refine K1 1 Y<|Tr<|Rq Y (Zc (ov Y) ZbK)<|Rq Y (Zb (ov Y) Zgt Y)<|Rl tZ_128 Zcs Y<|Rm Y<|Za<|Zf<|?_
    obtain ⟨r1, hl1, ho1⟩ := Qg h
    refine L1 (fun i=>⟨[(1, .rp [.str p.Name, .int .i64 p.Kind, .sl 128 (List.map Z2 p.Parts), .int .i64 p.First, .int .i64 p.Every, .int .i64 p.Times, .int .i64 p.Step, .sl 9 (List.map R9 p.Names)] 0), (19, .sl 128 (List.map Z2 p.Parts)), (20, .int .i64 (p.Parts.length : Int)), (21, .int .i64 i)], []⟩) hl1 (ES []) fun n1 i h=>?_
    unfold Qm at h
    refine Tr<|R2 ZA Y<|Za<|Zj<|If h Y (fun h=>?_) fun h=>?_
    ·
     refine Ze<|Zj<|Zf<|K4 1 19 20 21 Y<|Tr<|bE h fun x h_x h=>Rq Y (Zx (ov Y) (ov Y) Zcs h_x)<|Rq Y (Zi (ov Y) Zbi Y Y)<|Rx Y (Zr (row := [_, _, _, _]) 0 Y Zgk Y tZ_128)<|Rx Y (Zo (ov Y) (ov Y) (Zm Zbi Y) Y Y Y (Nat.le_of_ble_eq_true Y) (Zd Y) Y)<|Za<|K5 1 4 19 20 21 Y<|Tr<|Rq Y (Zk (ov Y) Y Y Zfc)<|Rq Y (Zn (ov Y) Y Y Y tS3 Y)<|bE h fun y h_y h=>Rq Y (Zl (Qh h_y)<|.cons (ov Y) (.b Y)<|.cons (ov Y) (.b Y)<|.cons (ov Y) (.b Y) .nil)<|R1 Qa Y<|Rm Y<|Rq Y (.guarded ((!y) == false) Y Y Y Y fun h => Zk (ov Y) Y Y Ze7)<|Rq Y (.guarded ((!y) == false) Y Y Y Y fun h => Zn (ow Y h) Y Y Y tS3 Y)<|bE h fun y2 h_y2 h=>Rq Y (.guarded ((!y) == false) Y Y Y Y fun h => Zl (Qh<|gdT h_y2 h)<|.cons (ow Y h) (.b Y)<|.cons (ov Y) (.b Y)<|.cons (ov Y) (.b Y) .nil)<|Rq Y (.guarded ((!y) == false) Y Y Y Y fun h => Qa<|ow Y h)<|Rq Y (Qi (ov Y) fun hp=>ow Y<|gF hp)<|Rm Y<|Rq Y (.guarded (((!y) || (!y2)) == false) Y Y Y Y fun h => Zk (ov Y) Y Y Zfg)<|Rq Y (.guarded (((!y) || (!y2)) == false) Y Y Y Y fun h => Zn (ow Y h) Y Y Y tS3 Y)<|bE h fun y3 h_y3 h=>Rq Y (.guarded (((!y) || (!y2)) == false) Y Y Y Y fun h => Zl (Qh<|gdT h_y3 h)<|.cons (ow Y h) (.b Y)<|.cons (ov Y) (.b Y)<|.cons (ov Y) (.b Y) .nil)<|Rq Y (.guarded (((!y) || (!y2)) == false) Y Y Y Y fun h => Qa<|ow Y h)<|Rq Y (Qi (ov Y) fun hp=>ow Y<|gF hp)<|Rm Y<|Rq Y (.guarded ((((!y) || (!y2)) || (!y3)) == false) Y Y Y Y fun h => Zk (ov Y) Y Y Ze9)<|Rq Y (.guarded ((((!y) || (!y2)) || (!y3)) == false) Y Y Y Y fun h => Zn (ow Y h) Y Y Y tS3 Y)<|Rq Y (.guarded ((((!y) || (!y2)) || (!y3)) == false) Y Y Y Y fun h => Zk (ov Y) Y Y Zfg)<|Rq Y (.guarded ((((!y) || (!y2)) || (!y3)) == false) Y Y Y Y fun h => Zn (ow Y h) Y Y Y tS3 Y)<|Rq Y (.guarded ((((!y) || (!y2)) || (!y3)) == false) Y Y Y Y fun h => ZfB (ov Y) (ow Y h) Y)<|bE h fun y4 h_y4 h=>Rq Y (.guarded ((((!y) || (!y2)) || (!y3)) == false) Y Y Y Y fun h => Zl (Qh<|gdT h_y4 h)<|.cons (ow Y h) (.b Y)<|.cons (ov Y) (.b Y)<|.cons (ow Y h) (.b Y) .nil)<|Rq Y (.guarded ((((!y) || (!y2)) || (!y3)) == false) Y Y Y Y fun h => Qa<|ow Y h)<|Rq Y (Qi (ov Y) fun hp=>ow Y<|gF hp)<|Za<|K5 1 19 20 21 49 Y<|If h Y (fun h=>?_) fun h=>?_
     ·
      refine K0<|Tr<|Ra Y<|Za<|?_
      replace h := lx h ▸ ho1
      obtain rfl := rt h
      exact Zg (Zp Y (.one<|rb Y))
     ·
      exact Ze<|K4 1 19 20 21 Y<|Zs<|R2 ZT Y<|Rm Y<|Za<|⟨_, h, ES []⟩
    ·
     refine Zu<|?_
     replace h := lx h ▸ ho1
     exact ⟨(), h, ES []⟩
   ·
    replace h := elr h
    replace h := t0i h
    refine Zj<|Tr<|Rq Y (Zi (ov Y) QW Y Y)<|bE h fun y5 h_y5 h=>Rq Y (Zl (ZaD h_y5)<|.cons (ov Y) (.aggB Y) .nil)<|R2 Qq Y<|Za<|K2 1 53 Y<|If h Y (fun h=>?_) fun h=>?_
    ·
     refine K0<|Tr<|Ra Y<|Za<|?_
     obtain rfl := rt h
     exact Zg (Zp Y (.one<|rb Y))
    ·
     refine Ze<|K1 1 Y<|Tr<|R_q (.sl 3<|List.map R3 ([1, 2, 4, 8, 16] : List Int)) Y (Zc2 XX (.cons (cvs (ov Y)<|Zt Y) Y (.cons (.b Y) .nil)<|.cons (cvs (ov Y)<|Zt Y) Y (.cons (.b Y) .nil)<|.cons (cvs (ov Y)<|Zt Y) Y (.cons (.b Y) .nil)<|.cons (cvs (ov Y)<|Zt Y) Y (.cons (.b Y) .nil)<|.cons (cvs (ov Y)<|Zt Y) Y (.cons (.b Y) .nil) .nil) Y Y)<|Rq Y (Zc (ov Y) ZgL)<|Rq Y (Zb (ov Y) tS3 Y)<|bE h fun y6 h_y6 h=>Rq Y (Zl (ZcR h_y6)<|.cons (ov Y) (.b Y)<|.cons (ov Y) (.b Y) .nil)<|Ra Y<|Za<|Zj<|K2 1 5 Y<|Tr<|Rm Y<|R1 Qa Y<|Rm Y<|Rq Y (.guarded ((!y6) == false) Y Y Y Y fun h => Zc (ov Y) ZjG)<|Rq Y (.guarded ((!y6) == false) Y Y Y Y fun h => Zb (ow Y h) tS3 Y)<|Rq Y (.guarded ((!y6) == false) Y Y Y Y fun h => Zc (ov Y) ZgL)<|Rq Y (.guarded ((!y6) == false) Y Y Y Y fun h => Zb (ow Y h) tS3 Y)<|Rq Y (.guarded ((!y6) == false) Y Y Y Y fun h => ZfB (ow Y h) (ov Y) Y)<|bE h fun y7 h_y7 h=>Rq Y (.guarded ((!y6) == false) Y Y Y Y fun h => Zl (Qh<|gdT h_y7 h)<|.cons (ow Y h) (.b Y)<|.cons (ov Y) (.b Y)<|.cons (ow Y h) (.b Y) .nil)<|Rq Y (.guarded ((!y6) == false) Y Y Y Y fun h => Qa<|ow Y h)<|Rq Y (Qi (ov Y) fun hp=>ow Y<|gF hp)<|Rm Y<|Rq Y (.guarded (((!y6) || (!y7)) == false) Y Y Y Y fun h => Zc (ov Y) Zch)<|Rq Y (.guarded (((!y6) || (!y7)) == false) Y Y Y Y fun h => Zb (ow Y h) tS3 Y)<|bE h fun y8 h_y8 h=>Rq Y (.guarded (((!y6) || (!y7)) == false) Y Y Y Y fun h => Zl (Qh<|gdT h_y8 h)<|.cons (ow Y h) (.b Y)<|.cons (ov Y) (.b Y)<|.cons (ov Y) (.b Y) .nil)<|Rq Y (.guarded (((!y6) || (!y7)) == false) Y Y Y Y fun h => Qa<|ow Y h)<|Rq Y (Qi (ov Y) fun hp=>ow Y<|gF hp)<|Rm Y<|Rq Y (.guarded ((((!y6) || (!y7)) || (!y8)) == false) Y Y Y Y fun h => Zc (ov Y) Zdl)<|Rq Y (.guarded ((((!y6) || (!y7)) || (!y8)) == false) Y Y Y Y fun h => Zb (ow Y h) tS3 Y)<|Rq Y (.guarded ((((!y6) || (!y7)) || (!y8)) == false) Y Y Y Y fun h => ZA (ow Y h)<|ov Y)<|Rq Y (Qi (ov Y) fun hp=>ow Y<|gF hp)<|Rm Y<|Rq Y (.guarded (((((!y6) || (!y7)) || (!y8)) || (decide (p.Step < 0))) == false) Y Y Y Y fun h => Zc (ov Y) Zdl)<|Rq Y (.guarded (((((!y6) || (!y7)) || (!y8)) || (decide (p.Step < 0))) == false) Y Y Y Y fun h => Zb (ow Y h) tS3 Y)<|Rq Y (.guarded (((((!y6) || (!y7)) || (!y8)) || (decide (p.Step < 0))) == false) Y Y Y Y fun h => Qb (ow Y h)<|ov Y)<|Rq Y (.guarded (((((!y6) || (!y7)) || (!y8)) || (decide (p.Step < 0))) == false) Y Y Y Y fun h => Zc (ov Y) Zch)<|Rq Y (.guarded (((((!y6) || (!y7)) || (!y8)) || (decide (p.Step < 0))) == false) Y Y Y Y fun h => Zb (ow Y h) tS3 Y)<|Rq Y (.guarded (((((!y6) || (!y7)) || (!y8)) || (decide (p.Step < 0))) == false) Y Y Y Y fun h => Qb (ow Y h)<|ov Y)<|Rq Y (.guarded (((((!y6) || (!y7)) || (!y8)) || (decide (p.Step < 0))) == false) Y Y Y Y fun h => Zgp .neq (by simp) (ow Y h) (ow Y h) tB4)<|Rq Y (Qi (ov Y) fun hp=>ow Y<|gF hp)<|Za<|K2 1 88 Y<|If h Y (fun h=>?_) fun h=>?_
     ·
      refine K0<|Tr<|Ra Y<|Za<|?_
      obtain rfl := rt h
      exact Zg (Zp Y (.one<|rb Y))
     ·
      refine Ze<|J0 (fun j => (.inr j)) ⟨[], []⟩ h (fun h=>?_) fun h=>?_
      ·
       refine K1 1 Y<|Tr<|Rq Y (Zc (ov Y) ZbK)<|Rq Y (Zb (ov Y) Zgt Y)<|Rl tZ_128 Zcs Y<|Rm Y<|Za<|Zf<|?_
       obtain ⟨r2, hl2, ho2⟩ := Qg h
       refine L1 (fun i2=>⟨[(1, .rp [.str p.Name, .int .i64 p.Kind, .sl 128 (List.map Z2 p.Parts), .int .i64 p.First, .int .i64 p.Every, .int .i64 p.Times, .int .i64 p.Step, .sl 9 (List.map R9 p.Names)] 0), (90, .sl 128 (List.map Z2 p.Parts)), (91, .int .i64 (p.Parts.length : Int)), (92, .int .i64 i2)], []⟩) hl2 (ES []) fun n2 i2 h=>?_
       unfold Xf at h
       refine Tr<|R2 ZA Y<|Za<|Zj<|If h Y (fun h=>?_) fun h=>?_
       ·
        refine Ze<|Zj<|Zf<|K4 1 90 91 92 Y<|Tr<|bE h fun x2 h_x2 h=>Rq Y (Zx (ov Y) (ov Y) Zcs h_x2)<|Rq Y (Zi (ov Y) Zbi Y Y)<|Rx Y (Zr (row := [_, _, _, _]) 0 Y Zgk Y tZ_128)<|Rx Y (Zo (ov Y) (ov Y) (Zm Zbi Y) Y Y Y (Nat.le_of_ble_eq_true Y) (Zd Y) Y)<|Za<|K5 1 7 90 91 92 Y<|Tr<|Rq Y (Zc (ov Y) Zdl)<|Rq Y (Zb (ov Y) tS3 Y)<|R2 Qq Y<|Rm Y<|Rq Y (.guarded ((decide (60 < p.Step)) == false) Y Y Y Y fun h => Zk (ov Y) Y Y Ze7)<|Rq Y (.guarded ((decide (60 < p.Step)) == false) Y Y Y Y fun h => Zn (ow Y h) Y Y Y tS3 Y)<|Rq Y (.guarded ((decide (60 < p.Step)) == false) Y Y Y Y fun h => Zc (ov Y) Zch)<|Rq Y (.guarded ((decide (60 < p.Step)) == false) Y Y Y Y fun h => Zb (ow Y h) tS3 Y)<|Rq Y (.guarded ((decide (60 < p.Step)) == false) Y Y Y Y fun h => ZfB (ow Y h) (ov Y) Y)<|Rq Y (.guarded ((decide (60 < p.Step)) == false) Y Y Y Y fun h => Zc (ov Y) Zdl)<|Rq Y (.guarded ((decide (60 < p.Step)) == false) Y Y Y Y fun h => Zb (ow Y h) tS3 Y)<|Rq Y (.guarded ((decide (60 < p.Step)) == false) Y Y Y Y fun h => Zl8 (ow Y h) (ow Y h) Y)<|Rq Y (.guarded ((decide (60 < p.Step)) == false) Y Y Y Y fun h => Zid (ow Y h) (ow Y h) Y)<|Rq Y (.guarded ((decide (60 < p.Step)) == false) Y Y Y Y fun h => Qq (ow Y h)<|ov Y)<|Rq Y (Qi (ov Y) fun hp=>ow Y<|gF hp)<|Za<|K5 1 90 91 92 110 Y<|If h Y (fun h=>?_) fun h=>?_
        ·
         refine K0<|Tr<|Ra Y<|Za<|?_
         replace h := lx h ▸ ho2
         obtain rfl := rt h
         exact Zg (Zp Y (.one<|rb Y))
        ·
         exact Ze<|K4 1 90 91 92 Y<|Zs<|R2 ZT Y<|Rm Y<|Za<|⟨_, h, ES []⟩
       ·
        refine Zu<|?_
        replace h := lx h ▸ ho2
        exact ⟨(), h, ES []⟩
      ·
       replace h := elr h
       replace h := t0i h
       refine Tr<|Ra Y<|Za<|?_
       obtain rfl := rt h
       exact Zg (Zp Y (.one<|rb Y))
theorem Zb5 {s : List Str} {v : Str} {r : Int} (h : QS s v = some r) :
 CSpec Tryz.prog gl0 102 [.sl 9 (List.map R9 s), .str v] (.int .i64 r) := by
 unfold QS at h
 replace h := ZS h
 refine So Tryz.func102 Y fun w0 A=>Tr<|Ra Y<|Za<|J0 (fun j => (.inr j)) ⟨[], []⟩ h (fun h=>?_) fun h=>?_
 ·
  refine K2 0 1 Y<|Tr<|Rm Y<|Rl tZ_9 ZdO Y<|Rm Y<|Za<|Zf<|?_
  obtain ⟨r1, hl1, ho1⟩ := Qg h
  refine L1 (fun i=>⟨[(0, .sl 9 (List.map R9 s)), (1, .str v), (7, .int .i64 (s.length : Int)), (8, .int .i64 i)], []⟩) hl1 (ES []) fun n1 i h=>?_
  unfold ZZ at h
  refine Tr<|R2 ZA Y<|Za<|Zj<|If h Y (fun h=>?_) fun h=>?_
  ·
   refine Ze<|Zj<|Zf<|K4 0 1 7 8 Y<|Tr<|Rm Y<|Ra Y<|Za<|K5 0 1 5 7 8 Y<|Tr<|Rm Y<|Rm Y<|Rm Y<|bE h fun x h_x h=>Rq Y (Zx (ov Y) (ov Y) ZdO h_x)<|Rq Y (Zb (ov Y) tS9 Y)<|R2 ZdA Y<|Za<|K6 0 1 5 7 8 16 Y<|If h Y (fun h=>?_) fun h=>?_
   ·
    refine K1 5 Y<|Tr<|Rm Y<|Ra Y<|Za<|?_
    replace h := lx h ▸ ho1
    obtain rfl := rt h
    exact Zg (Zp Y (.one<|rb Y))
   ·
    exact Ze<|K4 0 1 7 8 Y<|Zs<|R2 ZT Y<|Rm Y<|Za<|⟨_, h, ES []⟩
  ·
   refine Zu<|?_
   replace h := lx h ▸ ho1
   exact ⟨(), h, ES []⟩
 ·
  replace h := elr h
  replace h := t0i h
  refine Tr<|Ra Y<|Za<|?_
  obtain rfl := rt h
  exact Zg (Zp Y (.one<|rb Y))
theorem Zby {s : List Str} {v : Str} {r : Bool} (h : Qc s v = some r) :
 CSpec Tryz.prog gl0 90 [.sl 9 (List.map R9 s), .str v] (.bool r) := by
 unfold Qc at h
 replace h := ZS h
 refine So Tryz.func90 Y fun w0 A=>Tr<|Ra Y<|Za<|Tr<|Rm Y<|Rm Y<|bE h fun y h_y h=>Rq Y (Zl (Zb5 h_y)<|.cons (ov Y) (.b Y)<|.cons (ov Y) (.b Y) .nil)<|R2 ZaX Y<|Ra Y<|Za<|?_
 obtain rfl := rt h
 exact Zg (Zp Y (.one<|rb Y))
theorem Zel {p : api_Param} {r : Int} (h : Jb p = some r) :
 CSpec Tryz.prog gl0 53 [.agg [.str p.Name, .int .i64 p.Kind, .sl 128 (List.map Z2 p.Parts), .int .i64 p.First, .int .i64 p.Every, .int .i64 p.Times, .int .i64 p.Step, .sl 9 (List.map R9 p.Names)]] (.int .i64 r) := by
 unfold Jb at h
 replace h := ZS h
 refine So Tryz.func53 Y fun w0 A=>Tr<|Rq Y (ZD (cva<|ov Y) Y tZ_41 Y)<|Ra Y<|Za<|K1 1 Y<|Tr<|Rq Y (Zi (ov Y) QW Y Y)<|bE h fun y h_y h=>Rq Y (Zl (ZaD h_y)<|.cons (ov Y) (.aggB Y) .nil)<|Ra Y<|Za<|Zj<|K2 1 3 Y<|Tr<|Rq Y (Zc (ov Y) ZbZ)<|Rq Y (Zb (ov Y) tS3 Y)<|R2 Qb Y<|Rm Y<|Rq Y (.guarded ((decide (p.Kind = 4)) == true) Y Y Y Y fun h => Zh<|ov Y)<|bE h fun q h_q h=>Rq Y (.guarded ((decide (p.Kind = 4)) == true) Y Y Y Y fun h => ZcH (ow Y h) (ov Y)<|gdT h_q h)<|Rq Y (.guarded ((decide (p.Kind = 4)) == true) Y Y Y Y fun h => Z4 (ow Y h)<|ov Y)<|Rq Y (QC (ov Y) fun hp=>ow Y<|gT hp)<|Rm Y<|Rq Y (.guarded (((decide (p.Kind = 4)) && (!decide (q = 0))) == false) Y Y Y Y fun h => Zc (ov Y) ZbZ)<|Rq Y (.guarded (((decide (p.Kind = 4)) && (!decide (q = 0))) == false) Y Y Y Y fun h => Zb (ow Y h) tS3 Y)<|Rq Y (.guarded (((decide (p.Kind = 4)) && (!decide (q = 0))) == false) Y Y Y Y fun h => Qb (ow Y h)<|ov Y)<|Rq Y (.guarded (((decide (p.Kind = 4)) && (!decide (q = 0))) == false) Y Y Y Y fun h => Zh<|ow Y h)<|Rq Y (.guarded2 ((((decide (p.Kind = 4)) && (!decide (q = 0))) == false) && ((decide (p.Kind = 5)) == true)) Y Y Y Y fun h => Zh<|ov Y)<|Rq Y (.guarded2 ((((decide (p.Kind = 4)) && (!decide (q = 0))) == false) && ((decide (p.Kind = 5)) == true)) Y Y Y Y fun h => Z4 (ow Y h)<|ov Y)<|Rq Y (.guarded (((decide (p.Kind = 4)) && (!decide (q = 0))) == false) Y Y Y Y fun h => QC (ow Y h) fun hp=>ow Y<|gA h<|gT hp)<|Rq Y (Qi (ov Y) fun hp=>ow Y<|gF hp)<|Rm Y<|Rq Y (.guarded ((((decide (p.Kind = 4)) && (!decide (q = 0))) || ((decide (p.Kind = 5)) && (!decide (y = 1)))) == false) Y Y Y Y fun h => Zc (ov Y) ZbZ)<|Rq Y (.guarded ((((decide (p.Kind = 4)) && (!decide (q = 0))) || ((decide (p.Kind = 5)) && (!decide (y = 1)))) == false) Y Y Y Y fun h => Zb (ow Y h) tS3 Y)<|Rq Y (.guarded ((((decide (p.Kind = 4)) && (!decide (q = 0))) || ((decide (p.Kind = 5)) && (!decide (y = 1)))) == false) Y Y Y Y fun h => Qb (ow Y h)<|ov Y)<|Rq Y (.guarded ((((decide (p.Kind = 4)) && (!decide (q = 0))) || ((decide (p.Kind = 5)) && (!decide (y = 1)))) == false) Y Y Y Y fun h => Zh<|ow Y h)<|Rq Y (.guarded2 (((((decide (p.Kind = 4)) && (!decide (q = 0))) || ((decide (p.Kind = 5)) && (!decide (y = 1)))) == false) && ((decide (p.Kind = 2)) == false)) Y Y Y Y fun h => Zc (ov Y) ZbZ)<|Rq Y (.guarded2 (((((decide (p.Kind = 4)) && (!decide (q = 0))) || ((decide (p.Kind = 5)) && (!decide (y = 1)))) == false) && ((decide (p.Kind = 2)) == false)) Y Y Y Y fun h => Zb (ow Y h) tS3 Y)<|Rq Y (.guarded2 (((((decide (p.Kind = 4)) && (!decide (q = 0))) || ((decide (p.Kind = 5)) && (!decide (y = 1)))) == false) && ((decide (p.Kind = 2)) == false)) Y Y Y Y fun h => Qb (ow Y h)<|ov Y)<|Rq Y (.guarded ((((decide (p.Kind = 4)) && (!decide (q = 0))) || ((decide (p.Kind = 5)) && (!decide (y = 1)))) == false) Y Y Y Y fun h => Qi (ow Y h) fun hp=>ow Y<|gA h<|gF hp)<|Rq Y (.guarded ((((decide (p.Kind = 4)) && (!decide (q = 0))) || ((decide (p.Kind = 5)) && (!decide (y = 1)))) == false) Y Y Y Y fun h => Zh<|ow Y h)<|Rq Y (.guarded2 (((((decide (p.Kind = 4)) && (!decide (q = 0))) || ((decide (p.Kind = 5)) && (!decide (y = 1)))) == false) && (((decide (p.Kind = 2)) || (decide (p.Kind = 3))) == true)) Y Y Y Y fun h => Zh<|ov Y)<|Rq Y (.guarded2 (((((decide (p.Kind = 4)) && (!decide (q = 0))) || ((decide (p.Kind = 5)) && (!decide (y = 1)))) == false) && (((decide (p.Kind = 2)) || (decide (p.Kind = 3))) == true)) Y Y Y Y fun h => Qb (ow Y h)<|ov Y)<|Rq Y (.guarded ((((decide (p.Kind = 4)) && (!decide (q = 0))) || ((decide (p.Kind = 5)) && (!decide (y = 1)))) == false) Y Y Y Y fun h => QC (ow Y h) fun hp=>ow Y<|gA h<|gT hp)<|Rq Y (Qi (ov Y) fun hp=>ow Y<|gF hp)<|Za<|K3 1 3 38 Y<|If h Y (fun h=>?_) fun h=>?_
 ·
  refine K0<|Tr<|Ra Y<|Za<|?_
  obtain rfl := rt h
  exact Zg (Zp Y (.one<|rb Y))
 ·
  refine Ze<|Zj<|K2 1 3 Y<|Tr<|Rq Y (Zc (ov Y) ZbZ)<|Rq Y (Zb (ov Y) tS3 Y)<|R2 Z4 Y<|Za<|K3 1 3 41 Y<|If h Y (fun h=>?_) fun h=>?_
  ·
   refine Zj<|K1 1 Y<|Tr<|Rq Y (Zc (ov Y) ZbU)<|Rq Y (Zb (ov Y) Zhg Y)<|Rl tZ_9 ZdO Y<|R2 Qq Y<|Za<|K1 45 Y<|If h Y (fun h=>?_) fun h=>?_
   ·
    refine K0<|Tr<|Ra Y<|Za<|?_
    obtain rfl := rt h
    exact Zg (Zp Y (.one<|rb Y))
   ·
    refine Ze<|K0<|Tr<|Ra Y<|Za<|?_
    obtain rfl := rt h
    exact Zg (Zp Y (.one<|rb Y))
  ·
   refine Ze<|Zj<|Zf<|K2 1 3 Y<|Tr<|Rq Y (Zc (ov Y) ZbU)<|Rq Y (Zb (ov Y) Zhg Y)<|Rl tZ_9 ZdO Y<|R2 Qb Y<|Ra Y<|Za<|K3 1 3 46 Y<|If h Y (fun h=>?_) fun h=>?_
   ·
    refine K0<|Tr<|Ra Y<|Za<|?_
    obtain rfl := rt h
    exact Zg (Zp Y (.one<|rb Y))
   ·
    refine K2 1 3 Y<|Td md0<|Dq 0 Y (Zc (ov Y) ZbU)<|Dq 1 Y (Zb (ov Y) Zhg Y)<|Dq 2 Y (ZeE (Xe (ov Y) tZ_9) ZdO<|ZbE _ _)<|D2 3 Qq Y<|D1 4 Zh Y<|Dq 5 Y (.guarded ((decide (64 < (p.Names.length : Int))) == false) Y Y Y Y fun h => Zc (ov Y) ZbU)<|Dq 6 Y (.guarded ((decide (64 < (p.Names.length : Int))) == false) Y Y Y Y fun h => Zb (ow Y h) Zhg Y)<|Dq 7 Y (.guarded ((decide (64 < (p.Names.length : Int))) == false) Y Y Y Y fun h => ZeE (Xe (ow Y h) tZ_9) ZdO<|ZbE _ _)<|Dq 8 Y (.guarded ((decide (64 < (p.Names.length : Int))) == false) Y Y Y Y fun h => Zh<|ov Y)<|bE h fun q2 h_q2 h=>Dq 9 Y (.guarded ((decide (64 < (p.Names.length : Int))) == false) Y Y Y Y fun h => ZcK (ov Y) (ow Y h)<|gdT h_q2 h)<|Dq 10 Y (.guarded ((decide (64 < (p.Names.length : Int))) == false) Y Y Y Y fun h => Qq (ow Y h)<|ow Y h)<|Dq 11 Y (Qi (ov Y) fun hp=>ow Y<|gF hp)<|D1 12 Zy Y<|Dd<|K2 1 51 Y<|If h Y (fun h=>?_) fun h=>?_
    ·
     refine K0<|Tr<|Ra Y<|Za<|?_
     obtain rfl := rt h
     exact Zg (Zp Y (.one<|rb Y))
    ·
     refine Ze<|J0 (fun j => (.inr j)) ⟨[], []⟩ h (fun h=>?_) fun h=>?_
     ·
      refine K1 1 Y<|Tr<|Rq Y (Zc (ov Y) ZbU)<|Rq Y (Zb (ov Y) Zhg Y)<|Rl tZ_9 ZdO Y<|Rm Y<|Za<|Zf<|?_
      obtain ⟨r1, hl1, ho1⟩ := Qg h
      refine L1 (fun i=>⟨[(1, .rp [.str p.Name, .int .i64 p.Kind, .sl 128 (List.map Z2 p.Parts), .int .i64 p.First, .int .i64 p.Every, .int .i64 p.Times, .int .i64 p.Step, .sl 9 (List.map R9 p.Names)] 0), (65, .sl 9 (List.map R9 p.Names)), (66, .int .i64 (p.Names.length : Int)), (67, .int .i64 i)], []⟩) hl1 (ES []) fun n1 i h=>?_
      unfold Xd at h
      refine Tr<|R2 ZA Y<|Za<|Zj<|If h Y (fun h=>?_) fun h=>?_
      ·
       refine Ze<|Zj<|Zf<|K4 1 65 66 67 Y<|Tr<|Rm Y<|bE h fun x h_x h=>Rq Y (Zx (ov Y) (ov Y) ZdO h_x)<|Rq Y (Zb (ov Y) tS9 Y)<|Ra Y<|Ra Y<|Za<|Zj<|K6 1 4 5 65 66 67 Y<|Tr<|Rm Y<|bE h fun y2 h_y2 h=>Rq Y (Zl (ZdJ h_y2)<|.cons (ov Y) (.b Y) .nil)<|R1 Qa Y<|Za<|K7 1 4 5 65 66 67 74 Y<|If h Y (fun h=>?_) fun h=>?_
       ·
        refine K0<|Tr<|Ra Y<|Za<|?_
        replace h := lx h ▸ ho1
        obtain rfl := rt h
        exact Zg (Zp Y (.one<|rb Y))
       ·
        refine Ze<|K6 1 4 5 65 66 67 Y<|Tr<|Rq Y (Zc (ov Y) ZbU)<|Rq Y (Zb (ov Y) Zhg Y)<|Rm Y<|bE h fun l h_l h=>Rq Y (Zdy (ov Y) ZdO on (oi<|ov Y) h_l)<|Rm Y<|bE h fun y3 h_y3 h=>Rq Y (Zl (Zby h_y3)<|.cons (ov Y) (.b Y)<|.cons (ov Y) (.b Y) .nil)<|Za<|K5 1 65 66 67 80 Y<|If h Y (fun h=>?_) fun h=>?_
        ·
         refine K0<|Tr<|Ra Y<|Za<|?_
         replace h := lx h ▸ ho1
         obtain rfl := rt h
         exact Zg (Zp Y (.one<|rb Y))
        ·
         exact Ze<|K4 1 65 66 67 Y<|Zs<|R2 ZT Y<|Rm Y<|Za<|⟨_, h, ES []⟩
      ·
       refine Zu<|?_
       replace h := lx h ▸ ho1
       exact ⟨(), h, ES []⟩
     ·
      replace h := elr h
      replace h := t0i h
      refine Tr<|Ra Y<|Za<|?_
      obtain rfl := rt h
      exact Zg (Zp Y (.one<|rb Y))
theorem ZaH {s : List api_Part} {f : api_Part → Option Bool} {r : Int} {f_f : FuncId} {f_c : List AV} (f_d : f_c.all datB = true) (f_h : ∀ (z0 : api_Part) z, f z0 = some z → CSpec Tryz.prog gl0 f_f ([.agg [.int .i64 z0.Frame, .int .i64 z0.Word, .int .i64 z0.Low, .int .i64 z0.Bits]] ++ f_c) (.bool z)) (h : Qe s f = some r) :
 CSpec Tryz.prog gl0 98 [.sl 128 (List.map Z2 s), .fn f_f f_c] (.int .i64 r) := by
 unfold Qe at h
 replace h := ZS h
 refine So Tryz.func98 Y fun w0 A=>Tr<|Ra Y<|Za<|J0 (fun j => (.inr j)) ⟨[], []⟩ h (fun h=>?_) fun h=>?_
 ·
  refine K2 0 1 Y<|Tr<|Rm Y<|Rl tZ_128 Zcs Y<|Rm Y<|Za<|Zf<|?_
  obtain ⟨r1, hl1, ho1⟩ := Qg h
  refine L1 (fun i=>⟨[(0, .sl 128 (List.map Z2 s)), (1, .fn f_f f_c), (7, .int .i64 (s.length : Int)), (8, .int .i64 i)], []⟩) hl1 (ES []<|sd 0 Y Y<|sr 1 Y (rFn<|rld f_d)<|sd 7 Y Y<|sd 8 Y Y sn) fun n1 i h=>?_
  unfold ZV at h
  refine Tr<|R2 ZA Y<|Za<|Zj<|If h Y (fun h=>?_) fun h=>?_
  ·
   refine Ze<|Zj<|Zf<|K4 0 1 7 8 Y<|Tr<|Rm Y<|Ra Y<|Za<|K5 0 1 5 7 8 Y<|Tr<|Rm Y<|Rm Y<|Rm Y<|bE h fun x h_x h=>Rq Y (Zx (ov Y) (ov Y) Zcs h_x)<|Rq Y (Zi (ov Y) Zbi Y Y)<|bE h fun y h_y h=>Rq Y (Zam (ov Y) f_d (f_h _ _ h_y)<|.cons (ov Y) (.aggB Y) .nil)<|Za<|K6 0 1 5 7 8 16 Y<|If h Y (fun h=>?_) fun h=>?_
   ·
    refine K1 5 Y<|Tr<|Rm Y<|Ra Y<|Za<|?_
    replace h := lx h ▸ ho1
    obtain rfl := rt h
    exact Zg (Zp Y (.one<|rb Y))
   ·
    exact Ze<|K4 0 1 7 8 Y<|Zs<|R2 ZT Y<|Rm Y<|Za<|⟨_, h, ES []<|sd 0 Y Y<|sr 1 Y (rFn<|rld f_d)<|sd 7 Y Y<|sd 8 Y Y sn⟩
  ·
   refine Zu<|?_
   replace h := lx h ▸ ho1
   exact ⟨(), h, ES []⟩
 ·
  replace h := elr h
  replace h := t0i h
  refine Tr<|Ra Y<|Za<|?_
  obtain rfl := rt h
  exact Zg (Zp Y (.one<|rb Y))
theorem Zah {s : List api_Part} {f : api_Part → Option Bool} {r : Bool} {f_f : FuncId} {f_c : List AV} (f_d : f_c.all datB = true) (f_h : ∀ (z0 : api_Part) z, f z0 = some z → CSpec Tryz.prog gl0 f_f ([.agg [.int .i64 z0.Frame, .int .i64 z0.Word, .int .i64 z0.Low, .int .i64 z0.Bits]] ++ f_c) (.bool z)) (h : ZW s f = some r) :
 CSpec Tryz.prog gl0 78 [.sl 128 (List.map Z2 s), .fn f_f f_c] (.bool r) := by
 unfold ZW at h
 replace h := ZS h
 refine So Tryz.func78 Y fun w0 A=>Tr<|Ra Y<|Za<|Tr<|Rm Y<|Rm Y<|bE h fun y h_y h=>Rq Y (Zl (ZaH f_d f_h h_y)<|.cons (ov Y) (.b Y)<|.cons (ov Y) (Dat.fnC<|.refl fun x hx => .b<|List.all_eq_true.1 f_d x hx) .nil)<|R2 ZaX Y<|Ra Y<|Za<|?_
 obtain rfl := rt h
 exact Zg (Zp Y (.one<|rb Y))
theorem ZfH {x : api_Part} {c0 : Int} {r : Bool} (h : X6 x c0 = some r) :
 CSpec Tryz.prog gl0 79 [.agg [.int .i64 x.Frame, .int .i64 x.Word, .int .i64 x.Low, .int .i64 x.Bits], .rp [.int .i64 c0] 0] (.bool r) := by
 unfold X6 at h
 replace h := ZS h
 refine So Tryz.func79 Y fun w0 A=>Tr<|Rq Y (ZD (cva<|ov Y) Y tZ_128 Y)<|Ra Y<|Za<|K3 1 2 3 Y<|Tr<|Rq Y (Zb (ov Y) tS3 Y)<|Rq Y (Zc (ov Y) Zfc)<|Rq Y (Zb (ov Y) tS3 Y)<|R2 ZT Y<|R2 ZaX Y<|Ra Y<|Za<|?_
 obtain rfl := rt h
 exact Zg (Zp Y (.one<|rb Y))
theorem ZdC {p : api_Param} {r : (List Int)} (h : Zae p = some r) :
 CSpec Tryz.prog gl0 44 [.agg [.str p.Name, .int .i64 p.Kind, .sl 128 (List.map Z2 p.Parts), .int .i64 p.First, .int .i64 p.Every, .int .i64 p.Times, .int .i64 p.Step, .sl 9 (List.map R9 p.Names)]] (.sl 3 (List.map R3 r)) := by
 unfold Zae at h
 replace h := ZS h
 refine So Tryz.func44 Y fun w0 A=>Tr<|Rq Y (ZD (cva<|ov Y) Y tZ_41 Y)<|Ra Y<|Za<|K1 1 Y<|Tr<|Ra Y<|Za<|I1 (fun out=>⟨[(3, .own 0 out.length)], [some ⟨3, List.map R3 out⟩]⟩) h (fun h=>?_) fun out h=>?_
 ·
  refine Tr<|Rq Y (Zc (ov Y) ZjG)<|Rq Y (Zb (ov Y) tS3 Y)<|Rx Y (Zr (row := [_]) 0 Y tZ3 Y tZ_3)<|Rx Y (Zo (ov Y) (ov Y) (ZL tS3) Y Y Y (Nat.le_of_ble_eq_true Y) (Zd Y) Y)<|Za<|Zf<|?_
  obtain ⟨r1, hl1, ho1⟩ := Qg h
  refine L2 (fun out2 f=>⟨[(1, .rp [.str p.Name, .int .i64 p.Kind, .sl 128 (List.map Z2 p.Parts), .int .i64 p.First, .int .i64 p.Every, .int .i64 p.Times, .int .i64 p.Step, .sl 9 (List.map R9 p.Names)] 0), (3, .own 0 out2.length), (4, .ptr 1 1 0 0)], [some ⟨3, List.map R3 out2⟩, some ⟨3, [[.int .i64 f]]⟩]⟩) hl1 (ES [none, some 0]) fun n1 out2 f h=>?_
  unfold QK at h
  refine Zj<|Tr<|Rq Y (Zn (ov Y) Y Y Y tS3 Y)<|R2 ZA Y<|Za<|K4 1 3 4 8 Y<|If h Y (fun h=>?_) fun h=>?_
  ·
   refine Ze<|I1 (fun out3=>⟨[(1, .rp [.str p.Name, .int .i64 p.Kind, .sl 128 (List.map Z2 p.Parts), .int .i64 p.First, .int .i64 p.Every, .int .i64 p.Times, .int .i64 p.Step, .sl 9 (List.map R9 p.Names)] 0), (3, .own 0 out3.length), (4, .rp [.int .i64 f] 0)], [some ⟨3, List.map R3 out3⟩]⟩) h (fun h=>?_) fun out3 h=>?_
   ·
    refine Zf<|K3 1 3 4 Y<|Tr<|Rq Y (Zc (ov Y) ZbK)<|Rq Y (Zb (ov Y) Zgt Y)<|Zfy (Ent.sel [some 0, none] (sd 1 Y Y<|sr 3 Y (.own (r' := 0) _ Y)<|sr 4 Y (.frp ⟨Y, ⟨_, Y⟩, Y, Y⟩)<|sd 13 Y Y<|sd 14 Y Y sn) (.cons Y (roM D3)<|.row 3 .nil) Y Y)<|Rq Y (Qk<|.cons (ov Y) .nil)<|bE h fun y h_y h=>Rq Y (Zl (Zah Y (fun z0 _ hz=>ZfH hz) h_y)<|.cons (ov Y) (.b Y)<|.cons (ov Y) (.fnC<|.cons (.b Y) .nil) .nil)<|R1 Qa Y<|Za<|K4 1 3 4 17 Y<|If h Y (fun h=>?_) fun h=>?_
    ·
     exact K3 1 3 4 Y<|Zs<|Rm Y<|Rq Y (Zb (ov Y) tS3 Y)<|R_q (.sl 3<|List.map R3 ([f] : List Int)) Y (Zc2 XX (.cons (cvs (ov Y)<|Zt Y) Y (.cons (.b Y) .nil) .nil) Y Y)<|bE h fun l h_l h=>Rx Y (XH (ov Y) (Xe (ov Y) tZ_3) XX Y Y Y (fun _=>Zd Y) Y h_l)<|Ra Y<|Za<|⟨_, h, ES [some 0]⟩
    ·
     exact Ze<|⟨_, h, ES [some 0]⟩
   ·
    exact Zj<|Tr<|Rq Y (Zb (ov Y) tS3 Y)<|Za<|Zs<|Rx Y (Zr (row := [_]) 1 Y tZ3 Y tZ_3)<|Rx Y (Zo (ov Y) (ov Y) (ZL tS3) Y Y Y (Nat.le_of_ble_eq_true Y) (Zd Y) Y)<|Za<|K3 1 3 4 Y<|Zs<|Rq Y (Zn (ov Y) Y Y Y tS3 Y)<|Rq Y (Zc (ov Y) ZgL)<|Rq Y (Zb (ov Y) tS3 Y)<|R2 ZT Y<|Rx Y (Zo (ov Y) (ov Y) (ZL tS3) Y Y Y (Nat.le_of_ble_eq_true Y) (Zd Y) Y)<|Za<|⟨_, h, ES [some 0, some 1]⟩
  ·
   refine Zu<|?_
   replace h := lx h ▸ ho1
   exact ⟨_, h, ES [some 0]⟩
 ·
  refine Tr<|Rm Y<|Ra Y<|Za<|?_
  obtain rfl := rt h
  exact Zg (Zp Y (.one<|.tmp Y<|View.ownM Y Y D3))
theorem ZgD {p : api_Param} {x : api_Part} {f : Int} {j : Int} {r : api_Place} (h : Zay p x f j = some r) :
 CSpec Tryz.prog gl0 80 [.agg [.str p.Name, .int .i64 p.Kind, .sl 128 (List.map Z2 p.Parts), .int .i64 p.First, .int .i64 p.Every, .int .i64 p.Times, .int .i64 p.Step, .sl 9 (List.map R9 p.Names)], .agg [.int .i64 x.Frame, .int .i64 x.Word, .int .i64 x.Low, .int .i64 x.Bits], .int .i64 f, .int .i64 j] (.agg [.int .i64 r.Frame, .int .i64 r.Word, .int .i64 r.Low, .int .i64 r.Bits]) := by
 unfold Zay at h
 replace h := ZS h
 refine So Tryz.func80 Y fun w0 A=>Tr<|Rq Y (ZD (cva<|ov Y) Y tZ_41 Y)<|Rq Y (ZD (cva<|ov Y) Y tZ_128 Y)<|Rx Y (Zr (row := [_, _, _, _]) 0 Y Zh1 Y tZ_117)<|Za<|K5 2 3 4 5 8 Y<|Tr<|Rm Y<|Rq Y (Zc (ov Y) Zfc)<|Rq Y (Zb (ov Y) tS3 Y)<|R2 ZT Y<|Rq Y (Zc (ov Y) Ze7)<|Rq Y (Zb (ov Y) tS3 Y)<|Rm Y<|Rq Y (Zc (ov Y) Zdl)<|Rq Y (Zb (ov Y) tS3 Y)<|R2 ZfQ Y<|R2 ZT Y<|Rq Y (Zc (ov Y) Zfg)<|Rq Y (Zb (ov Y) tS3 Y)<|Rq Y (Zc (ov Y) Ze9)<|Rq Y (Zb (ov Y) tS3 Y)<|Rq Y (Qz (ys := [_, _, _, _]) ZoT Zoz Zh1 (.cons (cvs (ov Y)<|Zt Y)<|.cons (cvs (ov Y)<|Zt Y)<|.cons (cvs (ov Y)<|Zt Y)<|.cons (cvs (ov Y)<|Zt Y) .nil) Y)<|Rx Y (Zo (ov Y) (ov Y) (Zm Zeq Y) Y Y Y (Nat.le_of_ble_eq_true Y) (Zd Y) Y)<|Za<|?_
 obtain rfl := rt h
 exact Zg (Zp Y (.one<|.agg Y Y Y Y Zeq Y Y<|pwB Y))
theorem ZbC {number : Int} {p : api_Param} {r : (List api_Cell)} (h : Xg number p = some r) :
 CSpec Tryz.prog gl0 45 [.int .i64 number, .agg [.str p.Name, .int .i64 p.Kind, .sl 128 (List.map Z2 p.Parts), .int .i64 p.First, .int .i64 p.Every, .int .i64 p.Times, .int .i64 p.Step, .sl 9 (List.map R9 p.Names)]] (.sl 44 (List.map R44 r)) := by
 unfold Xg at h
 replace h := ZS h
 refine So Tryz.func45 Y fun w0 A=>Tr<|Rq Y (ZD (cva<|ov Y) Y tZ_41 Y)<|Ra Y<|Za<|K2 0 3 Y<|Tr<|Ra Y<|Za<|I1 (fun out=>⟨[(5, .own 0 out.length)], [some ⟨44, List.map R44 out⟩]⟩) h (fun h=>?_) fun out h=>?_
 ·
  refine Tr<|Rq Y (Zi (ov Y) QW Y Y)<|bE h fun y h_y h=>Rq Y (Zl (ZdC h_y)<|.cons (ov Y) (.aggB Y) .nil)<|Rl tZ_3 XX Y<|Rm Y<|Za<|Zf<|?_
  obtain ⟨r1, hl1, ho1⟩ := Qg h
  refine L2 (fun out2 i=>⟨[(0, .int .i64 number), (3, .rp [.str p.Name, .int .i64 p.Kind, .sl 128 (List.map Z2 p.Parts), .int .i64 p.First, .int .i64 p.Every, .int .i64 p.Times, .int .i64 p.Step, .sl 9 (List.map R9 p.Names)] 0), (5, .own 0 out2.length), (13, .sl 3 (List.map R3 y)), (14, .int .i64 (y.length : Int)), (15, .int .i64 i)], [some ⟨44, List.map R44 out2⟩]⟩) hl1 (ES [none]) fun n1 out2 i h=>?_
  unfold Xr at h
  refine Tr<|R2 ZA Y<|Za<|Zj<|If h Y (fun h=>?_) fun h=>?_
  ·
   refine Ze<|I1 (fun out3=>⟨[(0, .int .i64 number), (3, .rp [.str p.Name, .int .i64 p.Kind, .sl 128 (List.map Z2 p.Parts), .int .i64 p.First, .int .i64 p.Every, .int .i64 p.Times, .int .i64 p.Step, .sl 9 (List.map R9 p.Names)] 0), (5, .own 0 out3.length), (13, .sl 3 (List.map R3 y)), (14, .int .i64 (y.length : Int)), (15, .int .i64 i)], [some ⟨44, List.map R44 out3⟩]⟩) h (fun h=>?_) fun out3 h=>?_
   ·
    refine Zf<|K6 0 3 5 13 14 15 Y<|Tr<|bE h fun x h_x h=>Rq Y (Zx (ov Y) (ov Y) XX h_x)<|Rq Y (Zb (ov Y) tS3 Y)<|Ra Y<|Za<|K7 0 3 5 7 13 14 15 Y<|Tr<|Rq Y (Zc (ov Y) Zch)<|Rq Y (Zb (ov Y) tS3 Y)<|Rm Y<|Za<|Zf<|?_
    obtain ⟨r2, hl2, ho2⟩ := Qg h
    refine L2 (fun out4 i2=>⟨[(0, .int .i64 number), (3, .rp [.str p.Name, .int .i64 p.Kind, .sl 128 (List.map Z2 p.Parts), .int .i64 p.First, .int .i64 p.Every, .int .i64 p.Times, .int .i64 p.Step, .sl 9 (List.map R9 p.Names)] 0), (5, .own 0 out4.length), (7, .int .i64 x), (13, .sl 3 (List.map R3 y)), (14, .int .i64 (y.length : Int)), (15, .int .i64 i), (20, .int .i64 p.Times), (21, .int .i64 i2)], [some ⟨44, List.map R44 out4⟩]⟩) hl2 (ES [some 0]) fun n2 out4 i2 h=>?_
    unfold Zbq at h
    refine Tr<|R2 ZA Y<|Za<|Zj<|If h Y (fun h=>?_) fun h=>?_
    ·
     refine Ze<|Zj<|Zf<|K9 0 3 5 7 13 14 15 20 21 Y<|Tr<|Rm Y<|Ra Y<|Za<|K10 0 3 5 7 8 13 14 15 20 21 Y<|Tr<|Rm Y<|Rm Y<|Rq Y (ZeR (ov Y) Y Y Za7)<|Rm Y<|Rq Y (Qz (ys := [_, _, _, _]) Zp0 Zqd ZiO (.cons (cvs (ov Y)<|Zt Y)<|.cons (cvs (ov Y)<|Zt Y)<|.cons (cvs (ov Y)<|Zt Y) .nil) Y)<|Rx Y (Zr (row := [_, _, _, _]) 1 Y ZiO Y tZ_44)<|Rx Y (Zo (ov Y) (ov Y) (Zm Zeu Y) Y Y Y (Nat.le_of_ble_eq_true Y) (Zd Y) Y)<|Za<|I1 (fun Places=>⟨[(0, .int .i64 number), (3, .rp [.str p.Name, .int .i64 p.Kind, .sl 128 (List.map Z2 p.Parts), .int .i64 p.First, .int .i64 p.Every, .int .i64 p.Times, .int .i64 p.Step, .sl 9 (List.map R9 p.Names)] 0), (5, .own 0 out4.length), (7, .int .i64 x), (9, .ptr 1 1 0 0), (13, .sl 3 (List.map R3 y)), (14, .int .i64 (y.length : Int)), (15, .int .i64 i), (20, .int .i64 p.Times), (21, .int .i64 i2)], [some ⟨44, List.map R44 out4⟩, some ⟨44, [[.int .i64 number, .int .i64 (out4.length : Int), .int .i64 x, .own 2 Places.length]]⟩, some ⟨117, List.map R117 Places⟩]⟩) h (fun h=>?_) fun Places h=>?_
     ·
      refine K11 0 3 5 7 8 9 13 14 15 20 21 Y<|Tr<|Rq Y (Zc (ov Y) ZbK)<|Rq Y (Zb (ov Y) Zgt Y)<|Rl tZ_128 Zcs Y<|Rm Y<|Za<|Zf<|?_
      obtain ⟨r3, hl3, ho3⟩ := Qg h
      refine L2 (fun Places2 i3=>⟨[(0, .int .i64 number), (3, .rp [.str p.Name, .int .i64 p.Kind, .sl 128 (List.map Z2 p.Parts), .int .i64 p.First, .int .i64 p.Every, .int .i64 p.Times, .int .i64 p.Step, .sl 9 (List.map R9 p.Names)] 0), (5, .own 0 out4.length), (7, .int .i64 x), (8, .int .i64 i2), (9, .ptr 1 1 0 0), (13, .sl 3 (List.map R3 y)), (14, .int .i64 (y.length : Int)), (15, .int .i64 i), (20, .int .i64 p.Times), (21, .int .i64 i2), (30, .sl 128 (List.map Z2 p.Parts)), (31, .int .i64 (p.Parts.length : Int)), (32, .int .i64 i3)], [some ⟨44, List.map R44 out4⟩, some ⟨44, [[.int .i64 number, .int .i64 (out4.length : Int), .int .i64 x, .own 2 Places2.length]]⟩, some ⟨117, List.map R117 Places2⟩]⟩) hl3 (ES [some 0, some 1, none]) fun n3 Places2 i3 h=>?_
      unfold Qv at h
      refine Tr<|R2 ZA Y<|Za<|Zj<|If h Y (fun h=>?_) fun h=>?_
      ·
       exact Ze<|Zj<|Zf<|Qf (kc 0 Y<|kc 3 Y<|kc 5 Y<|kc 7 Y<|kc 8 Y<|kc 9 Y<|kc 13 Y<|kc 14 Y<|kc 15 Y<|kc 20 Y<|kc 21 Y<|kc 30 Y<|kc 31 Y<|kc 32 Y kn) Y<|Tr<|bE h fun x2 h_x2 h=>Rq Y (Zx (ov Y) (ov Y) Zcs h_x2)<|Rq Y (Zi (ov Y) Zbi Y Y)<|Rx Y (Zr (row := [_, _, _, _]) 3 Y Zgk Y tZ_128)<|Rx Y (Zo (ov Y) (ov Y) (Zm Zbi Y) Y Y Y (Nat.le_of_ble_eq_true Y) (Zd Y) Y)<|Za<|Qf (kc 0 Y<|kc 3 Y<|kc 5 Y<|kc 7 Y<|kc 8 Y<|kc 9 Y<|kc 11 Y<|kc 13 Y<|kc 14 Y<|kc 15 Y<|kc 20 Y<|kc 21 Y<|kc 30 Y<|kc 31 Y<|kc 32 Y kn) Y<|Zdm (cw := md0) (by kernel_rfl)<|Dq 0 Y (Zk (ov Y) Y Y ZdW)<|Dq 1 Y (Zn (ov Y) Y Y Y Zjz Y)<|Dq 2 Y (Zi (ov Y) QW Y Y)<|Dq 3 Y (ZK (ov Y) Y Y Y Zbi Y Y)<|D1 4 Zh Y<|D1 5 Zh Y<|bE h fun y2 h_y2 h=>Dq 6 Y (Zl (ZgD h_y2)<|.cons (ov Y) (.aggB Y)<|.cons (ov Y) (.aggB Y)<|.cons (ov Y) (.b Y)<|.cons (ov Y) (.b Y) .nil)<|Zni 7 (.sl 117<|List.map R117 ([y2] : List api_Place)) Y (by kernel_rfl) Y Y (Zc2 ZhC (.cons (cva<|ov Y) Y (pwD Y) .nil) Y Y)<|bE h fun l h_l h=>Do 8 Y (XH (ov Y) (Xe (ov Y) tZ_117) ZhC Y Y Y (fun _=>Zd Y) Y h_l)<|Dq 9 Y (Zk (ov Y) Y Y ZdW)<|Do 10 Y (Zo (ov Y) (ov Y) (ZL Zjz) Y Y Y (Nat.le_of_ble_eq_true Y) (Zd Y) Y)<|Dd<|Qf (kc 0 Y<|kc 3 Y<|kc 5 Y<|kc 7 Y<|kc 8 Y<|kc 9 Y<|kc 13 Y<|kc 14 Y<|kc 15 Y<|kc 20 Y<|kc 21 Y<|kc 30 Y<|kc 31 Y<|kc 32 Y kn) Y<|Zs<|R2 ZT Y<|Rm Y<|Za<|⟨_, h, ES [some 0, some 1, some 2]⟩
      ·
       refine Zu<|?_
       replace h := lx h ▸ ho3
       exact ⟨_, h, ES [some 0, some 1, some 2]⟩
     ·
      exact Zs<|Rm Y<|Rq Y (ZK (ov Y) Y Y Y Zeu Y Y)<|Zfy (Ent.sel [some 0, some 1, none] (sd 0 Y Y<|sd 3 Y Y<|sr 5 Y (.own (r' := 0) _ Y)<|sd 7 Y Y<|sr 9 Y (.ptr (r' := 1) _ _ _ Y)<|sd 13 Y Y<|sd 14 Y Y<|sd 15 Y Y<|sd 20 Y Y<|sd 21 Y Y<|sr 47 Y (.own (r' := 0) _ Y)<|sr 48 Y (Ja<|rlc (.dat Y)<|rlc (.dat Y)<|rlc (.dat Y)<|rlc (ZpN Y Y Y D117) rln) sn) (.cons Y (roM D44)<|.cons Y (ro1 (by exact tZ_44.symm)<|rlc (.dat Y)<|rlc (.dat Y)<|rlc (.dat Y)<|rlc (ZpN Y Y Y D117) rln)<|.row 117 .nil) Y Y)<|R_q (.sl 44<|List.map R44 ([(api_Cell.mk number (out4.length : Int) x Places)] : List api_Cell)) Y (Zc2 Za7 (.cons (cva<|ov Y) Y (pwD Y) .nil) Y Y)<|bE h fun l2 h_l2 h=>Rx Y (XH (ov Y) (Xe (ov Y) tZ_44) Za7 Y Y Y (fun _=>Zd Y) Y h_l2)<|Ra Y<|Za<|K9 0 3 5 7 13 14 15 20 21 Y<|Zs<|R2 ZT Y<|Rm Y<|Za<|⟨_, h, ES [some 0]⟩
    ·
     refine Zu<|?_
     replace h := lx h ▸ ho2
     exact ⟨_, h, ES [some 0]⟩
   ·
    exact Zs<|R2 ZT Y<|Rm Y<|Za<|⟨_, h, ES [some 0]⟩
  ·
   refine Zu<|?_
   replace h := lx h ▸ ho1
   exact ⟨_, h, ES [some 0]⟩
 ·
  refine Tr<|Rm Y<|Ra Y<|Za<|?_
  obtain rfl := rt h
  exact Zg (Zp Y (.one<|.tmp Y<|View.ownM Y Y D44))
theorem ZgQ {x : api_Place} {r : (List layout_bit)} (h : ZaV x = some r) :
 CSpec Tryz.prog gl0 81 [.agg [.int .i64 x.Frame, .int .i64 x.Word, .int .i64 x.Low, .int .i64 x.Bits]] (.sl 134 (List.map R134 r)) := by
 unfold ZaV at h
 replace h := ZS h
 refine So Tryz.func81 Y fun w0 A=>Tr<|Rq Y (ZD (cva<|ov Y) Y tZ_117 Y)<|Ra Y<|Za<|K1 1 Y<|Tr<|Ra Y<|Za<|I1 (fun out=>⟨[(3, .own 0 out.length)], [some ⟨134, List.map R134 out⟩]⟩) h (fun h=>?_) fun out h=>?_
 ·
  refine Tr<|Rq Y (Zc (ov Y) Ze8)<|Rq Y (Zb (ov Y) tS3 Y)<|Rm Y<|Za<|Zf<|?_
  obtain ⟨r1, hl1, ho1⟩ := Qg h
  refine L2 (fun out2 i=>⟨[(1, .rp [.int .i64 x.Frame, .int .i64 x.Word, .int .i64 x.Low, .int .i64 x.Bits] 0), (3, .own 0 out2.length), (6, .int .i64 x.Bits), (7, .int .i64 i)], [some ⟨134, List.map R134 out2⟩]⟩) hl1 (ES [none]) fun n1 out2 i h=>?_
  unfold Jy at h
  refine Tr<|R2 ZA Y<|Za<|Zj<|If h Y (fun h=>?_) fun h=>?_
  ·
   exact Ze<|Zj<|Zf<|K4 1 3 6 7 Y<|Tr<|Rm Y<|Ra Y<|Za<|K5 1 3 4 6 7 Y<|Zs<|Rm Y<|Rq Y (Zc (ov Y) ZhU)<|Rq Y (Zb (ov Y) tS3 Y)<|Rq Y (Zc (ov Y) ZgJ)<|Rq Y (Zb (ov Y) tS3 Y)<|Rq Y (Zc (ov Y) Zgc)<|Rq Y (Zb (ov Y) tS3 Y)<|Rm Y<|R2 ZT Y<|Rq Y (Qz (ys := [_, _, _]) Zqu Zrg Zp3 (.cons (cvs (ov Y)<|Zt Y)<|.cons (cvs (ov Y)<|Zt Y)<|.cons (cvs (ov Y)<|Zt Y) .nil) Y)<|R_q (.sl 134<|List.map R134 ([(layout_bit.mk x.Frame x.Word (i64 (x.Low + i)))] : List layout_bit)) Y (Zc2 Zl5 (.cons (cva<|ov Y) Y (pwD Y) .nil) Y Y)<|bE h fun l h_l h=>Rx Y (XH (ov Y) (Xe (ov Y) tZ_134) Zl5 Y Y Y (fun _=>Zd Y) Y h_l)<|Ra Y<|Za<|K4 1 3 6 7 Y<|Zs<|R2 ZT Y<|Rm Y<|Za<|⟨_, h, ES [some 0]⟩
  ·
   refine Zu<|?_
   replace h := lx h ▸ ho1
   exact ⟨_, h, ES [some 0]⟩
 ·
  refine Tr<|Rm Y<|Ra Y<|Za<|?_
  obtain rfl := rt h
  exact Zg (Zp Y (.one<|.tmp Y<|View.ownM Y Y D134))
theorem Ze0 {taken : List (layout_bit × Int)} {owner : Int} {l : List api_Place} {r : Bool × (List (layout_bit × Int))} (h : Zbg taken owner l = some r) :
 GSpec Tryz.prog gl0 46 [.mref 0 1, .int .i64 owner, .sl 117 (List.map R117 l)] [some ⟨104, [[.mcon (List.map (QX XF FV3) taken)]]⟩] (.bool r.1) [some ⟨104, [[.mcon (List.map (QX XF FV3) r.2)]]⟩] := by
 unfold Zbg at h
 replace h := ZS h
 refine Zdx (by kernel_rfl) Tryz.func46 Y Y<|?_
 intro w0 A W φ0
 refine Tr<|Ra Y<|Za<|J1 (fun j => (.inr j)) (fun o=>⟨[], [some ⟨104, [[.mcon (List.map (QX XF FV3) o)]]⟩]⟩) h (fun h=>?_) fun o h=>?_
 ·
  refine K3 0 1 2 Y<|Tr<|Rm Y<|Rl tZ_117 ZhC Y<|Rm Y<|Za<|Zf<|?_
  obtain ⟨r1, hl1, ho1⟩ := Qg h
  refine L2 (fun o2 i=>⟨[(0, .mref 0 1), (1, .int .i64 owner), (13, .sl 117 (List.map R117 l)), (14, .int .i64 (l.length : Int)), (15, .int .i64 i)], [some ⟨104, [[.mcon (List.map (QX XF FV3) o2)]]⟩]⟩) hl1 (ES [some 0] (hhp := .cons Y (QR (fk := XF) (fv := FV3) (m := taken) tZ_104 (fun _=>Ja<|rld Y) fun _=>.ren<|.dat Y) .nil)) fun n1 o2 i h=>?_
  unfold XO at h
  refine Tr<|R2 ZA Y<|Za<|Zj<|If h Y (fun h=>?_) fun h=>?_
  ·
   refine Ze<|J1 (fun j => (.inr j)) (fun o3=>⟨[(0, .mref 0 1), (1, .int .i64 owner), (13, .sl 117 (List.map R117 l)), (14, .int .i64 (l.length : Int)), (15, .int .i64 i)], [some ⟨104, [[.mcon (List.map (QX XF FV3) o3)]]⟩]⟩) h (fun h=>?_) fun o3 h=>?_
   ·
    refine Zf<|K5 0 1 13 14 15 Y<|Tr<|bE h fun x h_x h=>Rq Y (Zx (ov Y) (ov Y) ZhC h_x)<|Rq Y (Zi (ov Y) Zeq Y Y)<|Rx Y (Zr (row := [_, _, _, _]) 1 Y Zh1 Y tZ_117)<|Rx Y (Zo (ov Y) (ov Y) (Zm Zeq Y) Y Y Y (Nat.le_of_ble_eq_true Y) (Zd Y) Y)<|Za<|K6 0 1 8 13 14 15 Y<|Tr<|Rq Y (ZK (ov Y) Y Y Y Zeq Y Y)<|bE h fun y h_y h=>Rq Y (Zl (ZgQ h_y)<|.cons (ov Y) (.aggB Y) .nil)<|Rl tZ_134 Zl5 Y<|Rm Y<|Za<|Zf<|?_
    obtain ⟨r2, hl2, ho2⟩ := Qg h
    refine L2 (fun o4 i2=>⟨[(0, .mref 0 1), (1, .int .i64 owner), (13, .sl 117 (List.map R117 l)), (14, .int .i64 (l.length : Int)), (15, .int .i64 i), (20, .sl 134 (List.map R134 y)), (21, .int .i64 (y.length : Int)), (22, .int .i64 i2)], [some ⟨104, [[.mcon (List.map (QX XF FV3) o4)]]⟩]⟩) hl2 (ES [some 0] (hhp := .cons Y (QR (fk := XF) (fv := FV3) (m := o2) tZ_104 (fun _=>Ja<|rld Y) fun _=>.ren<|.dat Y) .nil)) fun n2 o4 i2 h=>?_
    unfold XQ at h
    refine Tr<|R2 ZA Y<|Za<|Zj<|If h Y (fun h=>?_) fun h=>?_
    ·
     refine Ze<|Zj<|Zf<|K8 0 1 13 14 15 20 21 22 Y<|Tr<|bE h fun x2 h_x2 h=>Rq Y (Zx (ov Y) (ov Y) Zl5 h_x2)<|Rq Y (Zi (ov Y) Zmd Y Y)<|Rx Y (Zr (row := [_, _, _]) 1 Y Zp3 Y tZ_134)<|Rx Y (Zo (ov Y) (ov Y) (Zm Zmd Y) Y Y Y (Nat.le_of_ble_eq_true Y) (Zd Y) Y)<|Za<|Zj<|K9 0 1 10 13 14 15 20 21 22 Y<|Tr<|Rm Y<|Rq Y (ZK (ov Y) Y Y Y Zmd Y Y)<|bE h fun o5 h_o5 h=>Rq Y (Zr3 (m := o4) (fk := XF) (fv := FV3) (k := x2) (z0 := 0) (ov Y) (ov Y) Zjx ZoJ Y (fun _=>.aggB Y) (Xt Zln Y) (fun _ _=>Y) h_o5)<|Rm Y<|Rq Y (Zq (ov Y) Y)<|Rq Y (Zq (ov Y) Y)<|Ra Y<|Ra Y<|Za<|K10 0 1 10 12 13 14 15 20 21 22 Y<|Tr<|Rm Y<|Za<|K10 0 1 10 13 14 15 20 21 22 32 Y<|If h Y (fun h=>?_) fun h=>?_
     ·
      refine K0<|Tr<|Ra Y<|Za<|?_
      replace h := lx h ▸ ho2
      replace h := lx h ▸ ho1
      obtain rfl := rt h
      exact Zg<|ZlB [some 0] Y (.cons (.tmp Y) .nil) (.cons Y (QR (fk := XF) (fv := FV3) (m := o4) tZ_104 (fun _=>Ja<|rld Y) fun _=>.ren<|.dat Y) .nil) Y Y<|.dat Y
     ·
      exact Ze<|K9 0 1 10 13 14 15 20 21 22 Y<|Zs<|Rm Y<|Rq Y (ZK (ov Y) Y Y Y Zmd Y Y)<|Rm Y<|Rx Y (ZiB (m := o4) (fk := XF) (fv := FV3) (k := x2) (v := owner) (ov Y) (ov Y) (ov Y) Zjx ZoJ Y fun _=>.aggB Y)<|Za<|K8 0 1 13 14 15 20 21 22 Y<|Zs<|R2 ZT Y<|Rm Y<|Za<|⟨_, h, ES [some 0] (hhp := .cons Y (QR (fk := XF) (fv := FV3) (m := (ZfG kq_layout_bit o4 x2 owner)) tZ_104 (fun _=>Ja<|rld Y) fun _=>.ren<|.dat Y) .nil)⟩
    ·
     refine Zu<|?_
     replace h := lx h ▸ ho2
     exact ⟨_, h, ES [some 0] (hhp := .cons Y (QR (fk := XF) (fv := FV3) (m := o4) tZ_104 (fun _=>Ja<|rld Y) fun _=>.ren<|.dat Y) .nil)⟩
   ·
    replace h := elr h
    replace h := t1i h
    exact Zs<|R2 ZT Y<|Rm Y<|Za<|⟨_, h, ES [some 0] (hhp := .cons Y (QR (fk := XF) (fv := FV3) (m := o3) tZ_104 (fun _=>Ja<|rld Y) fun _=>.ren<|.dat Y) .nil)⟩
  ·
   refine Zu<|?_
   replace h := lx h ▸ ho1
   exact ⟨_, h, ES [some 0] (hhp := .cons Y (QR (fk := XF) (fv := FV3) (m := o2) tZ_104 (fun _=>Ja<|rld Y) fun _=>.ren<|.dat Y) .nil)⟩
 ·
  replace h := elr h
  replace h := t1i h
  refine Tr<|Ra Y<|Za<|?_
  obtain rfl := rt h
  exact Zg<|ZlB [some 0] Y (.cons (.tmp Y) .nil) (.cons Y (QR (fk := XF) (fv := FV3) (m := o) tZ_104 (fun _=>Ja<|rld Y) fun _=>.ren<|.dat Y) .nil) Y Y<|.dat Y
theorem Zcb {p : api_Param} {r : Int} (h : Xq p = some r) :
 CSpec Tryz.prog gl0 22 [.agg [.str p.Name, .int .i64 p.Kind, .sl 128 (List.map Z2 p.Parts), .int .i64 p.First, .int .i64 p.Every, .int .i64 p.Times, .int .i64 p.Step, .sl 9 (List.map R9 p.Names)]] (.int .i64 r) := by
 unfold Xq at h
 replace h := ZS h
 refine So Tryz.func22 Y fun w0 A=>Tr<|Rq Y (ZD (cva<|ov Y) Y tZ_41 Y)<|Ra Y<|Za<|Zj<|K1 1 Y<|Tr<|Rq Y (Zc (ov Y) ZeS)<|Rq Y (Zb (ov Y) tS9 Y)<|bE h fun y h_y h=>Rq Y (Zl (ZdJ h_y)<|.cons (ov Y) (.b Y) .nil)<|R1 Qa Y<|Za<|K2 1 12 Y<|If h Y (fun h=>?_) fun h=>?_
 ·
  refine K0<|Tr<|Ra Y<|Za<|?_
  obtain rfl := rt h
  exact Zg (Zp Y (.one<|rb Y))
 ·
  refine Ze<|Zj<|K1 1 Y<|Tr<|Rq Y (Zc (ov Y) ZbZ)<|Rq Y (Zb (ov Y) tS3 Y)<|bE h fun y2 h_y2 h=>Rq Y (Zl (Qh h_y2)<|.cons (ov Y) (.b Y)<|.cons (ov Y) (.b Y)<|.cons (ov Y) (.b Y) .nil)<|R1 Qa Y<|Za<|K2 1 16 Y<|If h Y (fun h=>?_) fun h=>?_
  ·
   refine K0<|Tr<|Ra Y<|Za<|?_
   obtain rfl := rt h
   exact Zg (Zp Y (.one<|rb Y))
  ·
   refine Ze<|Zj<|K1 1 Y<|Tr<|Rq Y (Zi (ov Y) QW Y Y)<|bE h fun y3 h_y3 h=>Rq Y (Zl (ZeU h_y3)<|.cons (ov Y) (.aggB Y) .nil)<|Ra Y<|Za<|K2 1 3 Y<|Tr<|Rm Y<|R2 Z4 Y<|Za<|K3 1 3 20 Y<|If h Y (fun h=>?_) fun h=>?_
   ·
    refine K1 3 Y<|Tr<|Rm Y<|Ra Y<|Za<|?_
    obtain rfl := rt h
    exact Zg (Zp Y (.one<|rb Y))
   ·
    refine Ze<|Zj<|K1 1 Y<|Tr<|Rq Y (Zi (ov Y) QW Y Y)<|bE h fun y4 h_y4 h=>Rq Y (Zl (Zel h_y4)<|.cons (ov Y) (.aggB Y) .nil)<|Ra Y<|Za<|K2 1 4 Y<|Tr<|Rm Y<|R2 Z4 Y<|Za<|K3 1 4 25 Y<|If h Y (fun h=>?_) fun h=>?_
    ·
     refine K1 4 Y<|Tr<|Rm Y<|Ra Y<|Za<|?_
     obtain rfl := rt h
     exact Zg (Zp Y (.one<|rb Y))
    ·
     refine Ze<|K1 1 Y<|Tr<|Rx Y (ZcE 0 Y Zjx)<|Ra Y<|Za<|K2 1 5 Y<|Tr<|Rq Y (Zi (ov Y) QW Y Y)<|bE h fun y5 h_y5 h=>Rq Y (Zl (ZbC h_y5)<|.cons (ov Y) (.b Y)<|.cons (ov Y) (.aggB Y) .nil)<|Ra Y<|Za<|J0 (fun j => (.inr j)) ⟨[(6, .sl 44 (List.map R44 y5))], []⟩ h (fun h=>?_) fun h=>?_
     ·
      refine K2 5 6 Y<|Tr<|Rm Y<|Rl tZ_44 Za7 Y<|Rm Y<|Za<|Zf<|?_
      obtain ⟨r1, hl1, ho1⟩ := Qg h
      refine L2 (fun taken i=>⟨[(5, .mref 0 1), (6, .sl 44 (List.map R44 y5)), (30, .sl 44 (List.map R44 y5)), (31, .int .i64 (y5.length : Int)), (32, .int .i64 i)], [some ⟨104, [[.mcon (List.map (QX XF FV3) taken)]]⟩]⟩) hl1 (ES [some 0] (hhp := .cons Y (QR (fk := XF) (fv := FV3) (m := ([] : List (layout_bit × Int))) tZ_104 (fun _=>Ja<|rld Y) fun _=>.ren<|.dat Y) .nil)) fun n1 taken i h=>?_
      unfold QF at h
      refine Tr<|R2 ZA Y<|Za<|Zj<|If h Y (fun h=>?_) fun h=>?_
      ·
       refine Ze<|Zj<|Zf<|K5 5 6 30 31 32 Y<|Tr<|bE h fun x h_x h=>Rq Y (Zx (ov Y) (ov Y) Za7 h_x)<|Rq Y (Zi (ov Y) Zeu Y Y)<|Rx Y (Zr (row := [_, _, _, _]) 1 Y ZiO Y tZ_44)<|Rx Y (Zo (ov Y) (ov Y) (Zm Zeu Y) Y Y Y (Nat.le_of_ble_eq_true Y) (Zd Y) Y)<|Za<|K6 5 6 8 30 31 32 Y<|Tr<|Rm Y<|Rq Y (Zk (ov Y) Y Y ZdW)<|Rq Y (Zn (ov Y) Y Y Y Zjz Y)<|bE h fun y6 h_y6 h=>Rx Y (ZcA [0] (Ze0 h_y6) (.cons (ov Y) (.mref _ Y)<|.cons (ov Y) (.dat Y)<|.cons (ov Y) (.dat Y) .nil) (.cons Y (QR (fk := XF) (fv := FV3) (m := taken) tZ_104 (fun _=>Ja<|rld Y) fun _=>.ren<|.dat Y) .nil) Y (.lent 0 (.inl Y) Y (QR (fk := XF) (fv := FV3) (m := y6.2) tZ_104 (fun _=>Ja<|rld Y) fun _=>.ren<|.dat Y)<|.keep Y Y .nil) Y Y<|.dat Y)<|R1 Qa Y<|Za<|K6 5 6 30 31 32 40 Y<|If h Y (fun h=>?_) fun h=>?_
       ·
        refine K0<|Tr<|Ra Y<|Za<|?_
        replace h := lx h ▸ ho1
        obtain rfl := rt h
        exact Zg (Zp Y (.one<|rb Y))
       ·
        exact Ze<|K5 5 6 30 31 32 Y<|Zs<|R2 ZT Y<|Rm Y<|Za<|⟨_, h, ES [some 0] (hhp := .cons Y (QR (fk := XF) (fv := FV3) (m := y6.2) tZ_104 (fun _=>Ja<|rld Y) fun _=>.ren<|.dat Y) .nil)⟩
      ·
       refine Zu<|?_
       replace h := lx h ▸ ho1
       exact ⟨(), h, ES []⟩
     ·
      replace h := elr h
      replace h := t0i h
      refine Zj<|Tr<|Rm Y<|Rl tZ_44 Za7 Y<|R2 Qb Y<|Za<|K1 44 Y<|If h Y (fun h=>?_) fun h=>?_
      ·
       refine K0<|Tr<|Ra Y<|Za<|?_
       obtain rfl := rt h
       exact Zg (Zp Y (.one<|rb Y))
      ·
       refine Ze<|K0<|Tr<|Ra Y<|Za<|?_
       obtain rfl := rt h
       exact Zg (Zp Y (.one<|rb Y))
theorem Q7 {s : List api_Param} {f : api_Param → Option Bool} {r : Int} {f_f : FuncId} {f_c : List AV} (f_d : f_c.all datB = true) (f_h : ∀ (z0 : api_Param) z, f z0 = some z → CSpec Tryz.prog gl0 f_f ([.agg [.str z0.Name, .int .i64 z0.Kind, .sl 128 (List.map Z2 z0.Parts), .int .i64 z0.First, .int .i64 z0.Every, .int .i64 z0.Times, .int .i64 z0.Step, .sl 9 (List.map R9 z0.Names)]] ++ f_c) (.bool z)) (h : ZB s f = some r) :
 CSpec Tryz.prog gl0 33 [.sl 41 (List.map R41 s), .fn f_f f_c] (.int .i64 r) := by
 unfold ZB at h
 replace h := ZS h
 refine So Tryz.func33 Y fun w0 A=>Tr<|Ra Y<|Za<|J0 (fun j => (.inr j)) ⟨[], []⟩ h (fun h=>?_) fun h=>?_
 ·
  refine K2 0 1 Y<|Tr<|Rm Y<|Rl tZ_41 ZaT Y<|Rm Y<|Za<|Zf<|?_
  obtain ⟨r1, hl1, ho1⟩ := Qg h
  refine L1 (fun i=>⟨[(0, .sl 41 (List.map R41 s)), (1, .fn f_f f_c), (7, .int .i64 (s.length : Int)), (8, .int .i64 i)], []⟩) hl1 (ES []<|sd 0 Y Y<|sr 1 Y (rFn<|rld f_d)<|sd 7 Y Y<|sd 8 Y Y sn) fun n1 i h=>?_
  unfold Zv at h
  refine Tr<|R2 ZA Y<|Za<|Zj<|If h Y (fun h=>?_) fun h=>?_
  ·
   refine Ze<|Zj<|Zf<|K4 0 1 7 8 Y<|Tr<|Rm Y<|Ra Y<|Za<|K5 0 1 5 7 8 Y<|Tr<|Rm Y<|Rm Y<|Rm Y<|bE h fun x h_x h=>Rq Y (Zx (ov Y) (ov Y) ZaT h_x)<|Rq Y (Zi (ov Y) QW Y Y)<|bE h fun y h_y h=>Rq Y (Zam (ov Y) f_d (f_h _ _ h_y)<|.cons (ov Y) (.aggB Y) .nil)<|Za<|K6 0 1 5 7 8 16 Y<|If h Y (fun h=>?_) fun h=>?_
   ·
    refine K1 5 Y<|Tr<|Rm Y<|Ra Y<|Za<|?_
    replace h := lx h ▸ ho1
    obtain rfl := rt h
    exact Zg (Zp Y (.one<|rb Y))
   ·
    exact Ze<|K4 0 1 7 8 Y<|Zs<|R2 ZT Y<|Rm Y<|Za<|⟨_, h, ES []<|sd 0 Y Y<|sr 1 Y (rFn<|rld f_d)<|sd 7 Y Y<|sd 8 Y Y sn⟩
  ·
   refine Zu<|?_
   replace h := lx h ▸ ho1
   exact ⟨(), h, ES []⟩
 ·
  replace h := elr h
  replace h := t0i h
  refine Tr<|Ra Y<|Za<|?_
  obtain rfl := rt h
  exact Zg (Zp Y (.one<|rb Y))
end Go.Proofs.YtdacciininlfmaaGreatDoor
