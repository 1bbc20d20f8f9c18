/- A text of the proof: a verified executor of the program form, or the contracts of the functions that the law reaches. -/
import Derived.Test.YtacmhbfmedpkhaaGreatDoorVR
import Derived.Test.YtacmhbfmedpkhaaGreatDoorShT
import Derived.Test.YtacmhbfmedpkhaaGreatDoorProg
import Derived.Test.YtacmhbfmedpkhaaGreatDoorLayF
set_option linter.all false
namespace Go.Proofs.YtacmhbfmedpkhaaGreatDoor
open Go Go.Vx
set_option maxRecDepth 10000
set_option maxHeartbeats 1000000
set_option linter.unusedVariables false
theorem tZ_121 : Tryz.prog.cellsOf 121 = 4 := by kernel_rfl
instance : SzD Tryz.prog 121 4 := ⟨tZ_121⟩
theorem tZ_9 : Tryz.prog.cellsOf 9 = 1 := by kernel_rfl
instance : SzD Tryz.prog 9 1 := ⟨tZ_9⟩
theorem tZ_45 : Tryz.prog.cellsOf 45 = 8 := by kernel_rfl
instance : SzD Tryz.prog 45 8 := ⟨tZ_45⟩
theorem tZ_56 : Tryz.prog.cellsOf 56 = 132 := by kernel_rfl
instance : SzD Tryz.prog 56 132 := ⟨tZ_56⟩
theorem tZ_101 : Tryz.prog.cellsOf 101 = 4 := by kernel_rfl
instance : SzD Tryz.prog 101 4 := ⟨tZ_101⟩
theorem tZ_24 : Tryz.prog.cellsOf 24 = 2 := by kernel_rfl
instance : SzD Tryz.prog 24 2 := ⟨tZ_24⟩
theorem tZ_28 : Tryz.prog.cellsOf 28 = 4 := by kernel_rfl
instance : SzD Tryz.prog 28 4 := ⟨tZ_28⟩
theorem Zf6 : tAgg Tryz.prog 24 2 = true := by kernel_rfl
theorem X7 : Q4 Tryz.prog 31 = some [.int .i64 0, .slice none 0 0] := by kernel_rfl
theorem tZ_31 : Tryz.prog.cellsOf 31 = 2 := by kernel_rfl
instance : SzD Tryz.prog 31 2 := ⟨tZ_31⟩
theorem ZkK : tFld Tryz.prog 24 0 0 = true := by kernel_rfl
theorem tS3 : tScal Tryz.prog 3 = true := by kernel_rfl
theorem ZaA : tFld Tryz.prog 24 1 1 = true := by kernel_rfl
theorem Ze4 : tScal Tryz.prog 22 = true := by kernel_rfl
theorem ZbX : tSl Tryz.prog 22 45 8 104 = true := by kernel_rfl
theorem Q7 : tAgg Tryz.prog 45 8 = true := by kernel_rfl
theorem Zju : Q4 Tryz.prog 45 = some [.string ⟨#[]⟩, .int .i64 0, .slice none 0 0, .int .i64 0, .int .i64 0, .int .i64 0, .int .i64 0, .slice none 0 0] := by kernel_rfl
theorem Zfd : tFld Tryz.prog 45 0 0 = true := by kernel_rfl
theorem tS9 : tScal Tryz.prog 9 = true := by kernel_rfl
theorem Zd0 : tStr Tryz.prog 9 = true := by kernel_rfl
theorem ZbZ : tFld Tryz.prog 45 1 1 = true := by kernel_rfl
theorem Zce : tFld Tryz.prog 45 2 2 = true := by kernel_rfl
theorem Zhr : tScal Tryz.prog 42 = true := by kernel_rfl
theorem Zdh : tSl Tryz.prog 42 121 4 32 = true := by kernel_rfl
theorem ZbN : tAgg Tryz.prog 121 4 = true := by kernel_rfl
theorem Zhj : Q4 Tryz.prog 121 = some [.int .i64 0, .int .i64 0, .int .i64 0, .int .i64 0] := by kernel_rfl
theorem Zf5 : tFld Tryz.prog 121 0 0 = true := by kernel_rfl
theorem ZfQ : tFld Tryz.prog 121 1 1 = true := by kernel_rfl
theorem ZfR : tFld Tryz.prog 121 2 2 = true := by kernel_rfl
theorem Zf2 : tFld Tryz.prog 121 3 3 = true := by kernel_rfl
theorem Zea : tSl Tryz.prog 81 3 1 8 = true := by kernel_rfl
theorem tZ_3 : Tryz.prog.cellsOf 3 = 1 := by kernel_rfl
instance : SzD Tryz.prog 3 1 := ⟨tZ_3⟩
theorem ZhI : tFld Tryz.prog 45 4 4 = true := by kernel_rfl
theorem Zkx : tFld Tryz.prog 45 3 3 = true := by kernel_rfl
theorem ZcE : tFld Tryz.prog 45 5 5 = true := by kernel_rfl
theorem Zd7 : tFld Tryz.prog 45 6 6 = true := by kernel_rfl
theorem tB4 : (match Tryz.prog.underlying 4 with | some .bool => true | _ => false) = true := by kernel_rfl
theorem Zb1 : tFld Tryz.prog 45 7 7 = true := by kernel_rfl
theorem Zg0 : tScal Tryz.prog 43 = true := by kernel_rfl
theorem Zeh : tSl Tryz.prog 43 9 1 16 = true := by kernel_rfl
theorem Zkl : tMap Tryz.prog 108 141 3 = true := by kernel_rfl
theorem tZ3 : Q4 Tryz.prog 3 = some [.int .i64 0] := by kernel_rfl
theorem Zbq : tSl Tryz.prog 48 85 4 48 = true := by kernel_rfl
theorem Zqw : Zad Tryz.prog 85 = some [(0, 1), (1, 1), (2, 1), (3, 1)] := by kernel_rfl
theorem Zqo : Zc8 Tryz.prog 85 = true := by kernel_rfl
theorem ZkN : Q4 Tryz.prog 85 = some [.int .i64 0, .int .i64 0, .int .i64 0, .slice none 0 0] := by kernel_rfl
theorem tZ_85 : Tryz.prog.cellsOf 85 = 4 := by kernel_rfl
instance : SzD Tryz.prog 85 4 := ⟨tZ_85⟩
theorem Ze6 : tAgg Tryz.prog 85 4 = true := by kernel_rfl
theorem Zcr : tFld Tryz.prog 85 3 3 = true := by kernel_rfl
theorem Zhy : tScal Tryz.prog 83 = true := by kernel_rfl
theorem Zi5 : Q4 Tryz.prog 115 = some [.int .i64 0, .int .i64 0, .int .i64 0, .int .i64 0] := by kernel_rfl
theorem tZ_115 : Tryz.prog.cellsOf 115 = 4 := by kernel_rfl
instance : SzD Tryz.prog 115 4 := ⟨tZ_115⟩
theorem Zo9 : Zad Tryz.prog 115 = some [(0, 1), (1, 1), (2, 1), (3, 1)] := by kernel_rfl
theorem Zoi : Zc8 Tryz.prog 115 = true := by kernel_rfl
theorem ZfC : tAgg Tryz.prog 115 4 = true := by kernel_rfl
theorem ZgN : tSl Tryz.prog 83 115 4 32 = true := by kernel_rfl
theorem ZrB : ZfF Tryz.prog 141 [.i .i64, .i .i64, .i .i64] = true := by kernel_rfl
theorem Zkt : Zj7 Tryz.prog 3 = some (.int .i64 0) := by kernel_rfl
theorem Zf3 : tFld Tryz.prog 115 3 3 = true := by kernel_rfl
theorem Zhm : tFld Tryz.prog 115 0 0 = true := by kernel_rfl
theorem Zf0 : tFld Tryz.prog 115 1 1 = true := by kernel_rfl
theorem Zg7 : tFld Tryz.prog 115 2 2 = true := by kernel_rfl
theorem Zre : Zad Tryz.prog 141 = some [(0, 1), (1, 1), (2, 1)] := by kernel_rfl
theorem Zrb : Zc8 Tryz.prog 141 = true := by kernel_rfl
theorem Zqh : Q4 Tryz.prog 141 = some [.int .i64 0, .int .i64 0, .int .i64 0] := by kernel_rfl
theorem ZmZ : tSl Tryz.prog 138 141 3 24 = true := by kernel_rfl
theorem tZ_141 : Tryz.prog.cellsOf 141 = 3 := by kernel_rfl
instance : SzD Tryz.prog 141 3 := ⟨tZ_141⟩
theorem ZmK : tAgg Tryz.prog 141 3 = true := by kernel_rfl
theorem tZ_108 : Tryz.prog.cellsOf 108 = 1 := by kernel_rfl
instance : SzD Tryz.prog 108 1 := ⟨tZ_108⟩
theorem Jz : Zad Tryz.prog 31 = some [(0, 1), (1, 1)] := by kernel_rfl
theorem JB : Zc8 Tryz.prog 31 = true := by kernel_rfl
theorem ZY : tAgg Tryz.prog 31 2 = true := by kernel_rfl
theorem ZaE : tSl Tryz.prog 25 56 132 672 = true := by kernel_rfl
theorem ZiZ : tAgg Tryz.prog 56 132 = true := by kernel_rfl
theorem Zsf : Q4 Tryz.prog 56 = some ([.int .i64 0] ++ (List.flatten (List.replicate 64 [.int .u16 0])) ++ (List.flatten (List.replicate 64 [.int .i64 0])) ++ [.bool false, .int .i64 0, .bool false]) := by kernel_rfl
theorem JW : tFld Tryz.prog 56 0 0 = true := by kernel_rfl
theorem ZgK : tFld Tryz.prog 56 2 65 = true := by kernel_rfl
theorem Zr7 : tAgg Tryz.prog 54 64 = true := by kernel_rfl
theorem Zme : tArr Tryz.prog 54 64 3 1 = true := by kernel_rfl
theorem Zd6 : tFld Tryz.prog 56 1 1 = true := by kernel_rfl
theorem ZbL : tArr Tryz.prog 53 64 51 1 = true := by kernel_rfl
theorem Zbz : tScal Tryz.prog 51 = true := by kernel_rfl
theorem Zfq : tFld Tryz.prog 56 3 129 = true := by kernel_rfl
theorem tS4 : tScal Tryz.prog 4 = true := by kernel_rfl
theorem Zik : tAgg Tryz.prog 53 64 = true := by kernel_rfl
theorem tZ_53 : Tryz.prog.cellsOf 53 = 64 := by kernel_rfl
instance : SzD Tryz.prog 53 64 := ⟨tZ_53⟩
theorem tI5 : tInt Tryz.prog 5 .u8 = true := by kernel_rfl
theorem tI3 : tInt Tryz.prog 3 .i64 = true := by kernel_rfl
theorem Zhs : tInt Tryz.prog 51 .u16 = true := by kernel_rfl
theorem Zse : tArr Tryz.prog 177 4 51 1 = true := by kernel_rfl
theorem Zkv : tFld Tryz.prog 56 4 130 = true := by kernel_rfl
theorem Zpa : tFld Tryz.prog 56 5 131 = true := by kernel_rfl
theorem Zsh : Zad Tryz.prog 24 = some [(0, 1), (1, 1)] := by kernel_rfl
theorem Zsj : Zc8 Tryz.prog 24 = true := by kernel_rfl
theorem Zsp : Q4 Tryz.prog 24 = some [.int .i64 0, .slice none 0 0] := by kernel_rfl
theorem Zss : Q4 Tryz.prog 80 = some (List.flatten (List.replicate 16 ([.int .i64 0] ++ (List.flatten (List.replicate 64 [.int .u16 0])) ++ (List.flatten (List.replicate 64 [.int .i64 0])) ++ [.bool false, .int .i64 0, .bool false]))) := by kernel_rfl
theorem tZ_80 : Tryz.prog.cellsOf 80 = 2112 := by kernel_rfl
instance : SzD Tryz.prog 80 2112 := ⟨tZ_80⟩
theorem Zsa : tArr Tryz.prog 80 16 56 132 = true := by kernel_rfl
theorem ZnY : tFld Tryz.prog 85 2 2 = true := by kernel_rfl
theorem ZqL : tFld Tryz.prog 85 1 1 = true := by kernel_rfl
theorem Zsx : tAgg Tryz.prog 80 2112 = true := by kernel_rfl
theorem ZeT : Q4 Tryz.prog 165 = some [.int .i64 0, .int .i64 0, .nilFunc, .nilFunc] := by kernel_rfl
theorem tZ_165 : Tryz.prog.cellsOf 165 = 4 := by kernel_rfl
instance : SzD Tryz.prog 165 4 := ⟨tZ_165⟩
theorem Zr0 : Q4 Tryz.prog 162 = some [.nilFunc] := by kernel_rfl
theorem tZ_162 : Tryz.prog.cellsOf 162 = 1 := by kernel_rfl
instance : SzD Tryz.prog 162 1 := ⟨tZ_162⟩
theorem Zqy : tScal Tryz.prog 162 = true := by kernel_rfl
theorem Zr2 : Q4 Tryz.prog 178 = some [.nilFunc] := by kernel_rfl
theorem tZ_178 : Tryz.prog.cellsOf 178 = 1 := by kernel_rfl
instance : SzD Tryz.prog 178 1 := ⟨tZ_178⟩
theorem ZmF : tScal Tryz.prog 178 = true := by kernel_rfl
theorem ZcB : tMap Tryz.prog 180 3 179 = true := by kernel_rfl
theorem tZ_180 : Tryz.prog.cellsOf 180 = 1 := by kernel_rfl
instance : SzD Tryz.prog 180 1 := ⟨tZ_180⟩
theorem ZhJ : Zj7 Tryz.prog 179 = some .nilFunc := by kernel_rfl
theorem Zks : Zad Tryz.prog 165 = some [(0, 1), (1, 1), (2, 1), (3, 1)] := by kernel_rfl
theorem Zki : Zc8 Tryz.prog 165 = true := by kernel_rfl
theorem JN : tAgg Tryz.prog 165 4 = true := by kernel_rfl
theorem Zpo : Zo8 Tryz.prog 165 3 3 = true := by kernel_rfl
theorem Xl : tMap Tryz.prog 117 3 3 = true := by kernel_rfl
theorem Zcl : Zad Tryz.prog 59 = some [(0, 1), (1, 1), (2, 1)] := by kernel_rfl
theorem Zcn : Zc8 Tryz.prog 59 = true := by kernel_rfl
theorem Zbi : Q4 Tryz.prog 59 = some [.int .i64 0, .int .i64 0, .int .i64 0] := by kernel_rfl
theorem QV : tSl Tryz.prog 29 59 3 24 = true := by kernel_rfl
theorem tZ_59 : Tryz.prog.cellsOf 59 = 3 := by kernel_rfl
instance : SzD Tryz.prog 59 3 := ⟨tZ_59⟩
theorem Qb : tFld Tryz.prog 31 1 1 = true := by kernel_rfl
theorem X6 : tScal Tryz.prog 29 = true := by kernel_rfl
theorem Zr5 : Zad Tryz.prog 63 = some [(0, 1)] := by kernel_rfl
theorem ZrP : Zc8 Tryz.prog 63 = true := by kernel_rfl
theorem ZsD : Q4 Tryz.prog 63 = some [.slice none 0 0] := by kernel_rfl
theorem Zsy : tAgg Tryz.prog 63 1 = true := by kernel_rfl
theorem tZ_5 : Tryz.prog.cellsOf 5 = 1 := by kernel_rfl
instance : SzD Tryz.prog 5 1 := ⟨tZ_5⟩
theorem tZ_63 : Tryz.prog.cellsOf 63 = 1 := by kernel_rfl
instance : SzD Tryz.prog 63 1 := ⟨tZ_63⟩
theorem ZiB : tFld Tryz.prog 31 0 0 = true := by kernel_rfl
theorem Zjj : tFld Tryz.prog 63 0 0 = true := by kernel_rfl
theorem Zog : tScal Tryz.prog 61 = true := by kernel_rfl
theorem tI2 : tInt Tryz.prog 2 .i64 = true := by kernel_rfl
theorem Zqs : tInt Tryz.prog 167 .u64 = true := by kernel_rfl
theorem Zmk : tSl Tryz.prog 61 5 1 1 = true := by kernel_rfl
theorem ZrN : Q4 Tryz.prog 182 = some [.int .u8 0, .int .u8 0, .int .u8 0, .int .u8 0, .int .u8 0, .int .u8 0, .int .u8 0, .int .u8 0, .int .u8 0, .int .u8 0, .int .u8 0, .int .u8 0, .int .u8 0, .int .u8 0, .int .u8 0, .int .u8 0, .int .u8 0, .int .u8 0, .int .u8 0, .int .u8 0, .int .u8 0, .int .u8 0, .int .u8 0, .int .u8 0] := by kernel_rfl
theorem tZ_182 : Tryz.prog.cellsOf 182 = 24 := by kernel_rfl
instance : SzD Tryz.prog 182 24 := ⟨tZ_182⟩
theorem ZqD : tArr Tryz.prog 182 24 5 1 = true := by kernel_rfl
theorem Xn : tAgg Tryz.prog 59 3 = true := by kernel_rfl
theorem Zaz : tFld Tryz.prog 59 0 0 = true := by kernel_rfl
theorem Zbg : tFld Tryz.prog 59 1 1 = true := by kernel_rfl
theorem Qy : tFld Tryz.prog 59 2 2 = true := by kernel_rfl
theorem Zst : tU8 Tryz.prog 5 = true := by kernel_rfl
theorem Znc : tMap Tryz.prog 94 145 4 = true := by kernel_rfl
theorem Zq8 : tIntA Tryz.prog 145 3 3 .i64 = true := by kernel_rfl
theorem ZsE : Zj7 Tryz.prog 4 = some (.bool false) := by kernel_rfl
theorem ZrZ : tArr Tryz.prog 145 3 3 1 = true := by kernel_rfl
theorem Zqp : Q4 Tryz.prog 145 = some [.int .i64 0, .int .i64 0, .int .i64 0] := by kernel_rfl
theorem tZ_145 : Tryz.prog.cellsOf 145 = 3 := by kernel_rfl
instance : SzD Tryz.prog 145 3 := ⟨tZ_145⟩
theorem Zpk : tAgg Tryz.prog 145 3 = true := by kernel_rfl
theorem tZ_94 : Tryz.prog.cellsOf 94 = 1 := by kernel_rfl
instance : SzD Tryz.prog 94 1 := ⟨tZ_94⟩
theorem ZiU : Zad Tryz.prog 170 = some [(0, 1), (1, 1)] := by kernel_rfl
theorem Zix : Zc8 Tryz.prog 170 = true := by kernel_rfl
theorem ZkV : Q4 Tryz.prog 170 = some [.int .i64 0, .int .i64 0] := by kernel_rfl
theorem ZeQ : tSl Tryz.prog 146 170 2 16 = true := by kernel_rfl
theorem tZ_170 : Tryz.prog.cellsOf 170 = 2 := by kernel_rfl
instance : SzD Tryz.prog 170 2 := ⟨tZ_170⟩
theorem Zqu : tArr Tryz.prog 187 4 3 1 = true := by kernel_rfl
theorem ZrJ : Q4 Tryz.prog 187 = some [.int .i64 0, .int .i64 0, .int .i64 0, .int .i64 0] := by kernel_rfl
theorem Zn6 : tFld Tryz.prog 85 0 0 = true := by kernel_rfl
theorem tZ_117 : Tryz.prog.cellsOf 117 = 1 := by kernel_rfl
instance : SzD Tryz.prog 117 1 := ⟨tZ_117⟩
theorem ZqE : tArr Tryz.prog 148 2 3 1 = true := by kernel_rfl
theorem Zr1 : Q4 Tryz.prog 148 = some [.int .i64 0, .int .i64 0] := by kernel_rfl
theorem ZoW : Zad Tryz.prog 129 = some [(0, 1), (1, 1)] := by kernel_rfl
theorem Zn3 : Zc8 Tryz.prog 129 = true := by kernel_rfl
theorem Zql : Q4 Tryz.prog 129 = some [.int .i64 0, .int .i64 0] := by kernel_rfl
theorem tZ_129 : Tryz.prog.cellsOf 129 = 2 := by kernel_rfl
instance : SzD Tryz.prog 129 2 := ⟨tZ_129⟩
theorem Zde : tSl Tryz.prog 125 129 2 16 = true := by kernel_rfl
theorem ZjR : tAgg Tryz.prog 129 2 = true := by kernel_rfl
theorem Zhn : tFld Tryz.prog 129 0 0 = true := by kernel_rfl
theorem Zg9 : tFld Tryz.prog 129 1 1 = true := by kernel_rfl
theorem Zrn : ZfF Tryz.prog 129 [.i .i64, .i .i64] = true := by kernel_rfl
theorem ZgF : tAgg Tryz.prog 28 4 = true := by kernel_rfl
theorem Zgx : tFld Tryz.prog 28 0 0 = true := by kernel_rfl
theorem ZbK : tFld Tryz.prog 28 1 1 = true := by kernel_rfl
theorem Zgy : tScal Tryz.prog 26 = true := by kernel_rfl
theorem ZeW : tSl Tryz.prog 26 101 4 32 = true := by kernel_rfl
theorem ZdO : tAgg Tryz.prog 101 4 = true := by kernel_rfl
theorem ZjO : Q4 Tryz.prog 101 = some [.int .i64 0, .int .i64 0, .int .i64 0, .int .i64 0] := by kernel_rfl
theorem ZcH : tFld Tryz.prog 101 0 0 = true := by kernel_rfl
theorem ZcL : tFld Tryz.prog 101 1 1 = true := by kernel_rfl
theorem ZfT : tFld Tryz.prog 101 2 2 = true := by kernel_rfl
theorem ZfY : tFld Tryz.prog 101 3 3 = true := by kernel_rfl
theorem Zhw : tFld Tryz.prog 28 2 2 = true := by kernel_rfl
theorem ZhK : tFld Tryz.prog 28 3 3 = true := by kernel_rfl
theorem ZqP : (match Tryz.prog.underlying 29 with | some (.slice _) => true | _ => false) = true := by kernel_rfl
theorem Zqz : tInt Tryz.prog 172 .u64 = true := by kernel_rfl
theorem ZrW : ZfF Tryz.prog 59 [.i .i64, .i .i64, .i .i64] = true := by kernel_rfl
def gl0 : Gl := ⟨2, [(0, (gv_frame_syncs.toList.map fun z => Value.int .u16 z).toArray), (1, (Go.Lib.pow10Tab.map fun z => Value.int .u64 z).toArray)]⟩
def Z9 (x : api_Part) : List AV := [.int .i64 x.Frame, .int .i64 x.Word, .int .i64 x.Low, .int .i64 x.Bits]
def R9 (x : Str) : List AV := [.str x]
def R45 (x : api_Param) : List AV := [.str x.Name, .int .i64 x.Kind, .sl 121 (List.map Z9 x.Parts), .int .i64 x.First, .int .i64 x.Every, .int .i64 x.Times, .int .i64 x.Step, .sl 9 (List.map R9 x.Names)]
def C51 (x : Int) : AV := .int .u16 x
def C3 (x : Int) : AV := .int .i64 x
def R56 (x : api_Rest) : List AV := (.int .i64 x.Number) :: ((List.map C51 x.Frame.toList) ++ (((List.map C3 x.States.toList) ++ ((.bool x.Sound) :: (.int .i64 x.Copies) :: (.bool x.Conflict) :: []))))
def Jw (x : api_Line) : List AV := [.int .i64 x.From, .int .i64 x.To, .int .i64 x.A_, .int .i64 x.B]
def R3 (x : Int) : List AV := [.int .i64 x]
theorem D3 (x : Int) : (R3 x).length = Tryz.prog.cellsOf 3 ∧ (R3 x).all datB = true := ⟨tZ_3.symm, rfl⟩
instance : RowD Tryz.prog 3 R3 := ⟨D3⟩
def R115 (x : api_Place) : List AV := [.int .i64 x.Frame, .int .i64 x.Word, .int .i64 x.Low, .int .i64 x.Bits]
theorem D115 (x : api_Place) : (R115 x).length = Tryz.prog.cellsOf 115 ∧ (R115 x).all datB = true := ⟨tZ_115.symm, rfl⟩
instance : RowD Tryz.prog 115 R115 := ⟨D115⟩
def R85 (x : api_Cell) : List AV := [.int .i64 x.Param, .int .i64 x.Index, .int .i64 x.Frame, .sl 115 (List.map R115 x.Places)]
theorem D85 (x : api_Cell) : (R85 x).length = Tryz.prog.cellsOf 85 ∧ (R85 x).all datB = true := ⟨tZ_85.symm, rfl⟩
instance : RowD Tryz.prog 85 R85 := ⟨D85⟩
def XO (x : layout_bit) : AV := .agg [.int .i64 x.frame, .int .i64 x.word, .int .i64 x.bit]
theorem ZoG : KeyOK Tryz.prog 141 XO kq_layout_bit := Zmv ZrB (fun _ => rfl)
def FV3 (x : Int) : AV := .int .i64 x
def R141 (x : layout_bit) : List AV := [.int .i64 x.frame, .int .i64 x.word, .int .i64 x.bit]
theorem D141 (x : layout_bit) : (R141 x).length = Tryz.prog.cellsOf 141 ∧ (R141 x).all datB = true := ⟨tZ_141.symm, rfl⟩
instance : RowD Tryz.prog 141 R141 := ⟨D141⟩
theorem ln0 {a0 : AV} {v1 : Vector Int 64} {v2 : Vector Int 64} {a3 : AV} {a4 : AV} {a5 : AV} : ((a0) :: ((List.map C51 v1.toList) ++ (((List.map C3 v2.toList) ++ ((a3) :: (a4) :: (a5) :: []))))).length = 132 := lnC (n := 131) (lnA (m := 64) (n := 67) arL (lnA (m := 64) (n := 3) arL (lnC (n := 2) (lnC (n := 1) (lnC (n := 0) (lnN))))))
theorem al1 {x0 : Int} {v1 : Vector Int 64} {v2 : Vector Int 64} {x3 : Bool} {x4 : Int} {x5 : Bool} : ((.int .i64 x0) :: ((List.map C51 v1.toList) ++ (((List.map C3 v2.toList) ++ ((.bool x3) :: (.int .i64 x4) :: (.bool x5) :: []))))).all c1B = true := alC rfl (alA (arC fun _ => rfl) (alA (arC fun _ => rfl) (alC rfl (alC rfl (alC rfl (alN))))))
theorem ns2 {x0 : Int} {v1 : Vector Int 64} {v2 : Vector Int 64} {x3 : Bool} {x4 : Int} {x5 : Bool} : NS ((.int .i64 x0) :: ((List.map C51 v1.toList) ++ (((List.map C3 v2.toList) ++ ((.bool x3) :: (.int .i64 x4) :: (.bool x5) :: []))))) := nsC rfl (nsA (nsM fun _ => rfl) (nsA (nsM fun _ => rfl) (nsC rfl (nsC rfl (nsC rfl (nsR rfl))))))
theorem al3 {x0 : Int} {v1 : Vector Int 64} {v2 : Vector Int 64} {x3 : Bool} {x4 : Int} {x5 : Bool} : ((.int .i64 x0) :: ((List.map C51 v1.toList) ++ (((List.map C3 v2.toList) ++ ((.bool x3) :: (.int .i64 x4) :: (.bool x5) :: []))))).all datB = true := alC rfl (alA (arD fun _ => rfl) (alA (arD fun _ => rfl) (alC rfl (alC rfl (alC rfl (alN))))))
theorem at4 {a0 : AV} {v1 : Vector Int 64} {v2 : Vector Int 64} {a3 : AV} {a4 : AV} {a5 : AV} : At ((a0) :: ((List.map C51 v1.toList) ++ (((List.map C3 v2.toList) ++ ((a3) :: (a4) :: (a5) :: []))))) 0 1 ([a0]) := at0 (hdc (n := 0) hd0)
theorem at5 {a0 : AV} {v1 : Vector Int 64} {v2 : Vector Int 64} {a3 : AV} {a4 : AV} {a5 : AV} : At ((a0) :: ((List.map C51 v1.toList) ++ (((List.map C3 v2.toList) ++ ((a3) :: (a4) :: (a5) :: []))))) 65 64 ((List.map C3 v2.toList)) := atc (o := 64) (ata (m := 64) (o := 0) arL (at0 (hdw arL)))
theorem at6 {a0 : AV} {v1 : Vector Int 64} {v2 : Vector Int 64} {a3 : AV} {a4 : AV} {a5 : AV} : At ((a0) :: ((List.map C51 v1.toList) ++ (((List.map C3 v2.toList) ++ ((a3) :: (a4) :: (a5) :: []))))) 1 64 ((List.map C51 v1.toList)) := atc (o := 0) (at0 (hdw arL))
theorem at7 {a0 : AV} {v1 : Vector Int 64} {v2 : Vector Int 64} {a3 : AV} {a4 : AV} {a5 : AV} : At ((a0) :: ((List.map C51 v1.toList) ++ (((List.map C3 v2.toList) ++ ((a3) :: (a4) :: (a5) :: []))))) 129 1 ([a3]) := atc (o := 128) (ata (m := 64) (o := 64) arL (ata (m := 64) (o := 0) arL (at0 (hdc (n := 0) hd0))))
theorem at8 {a0 : AV} {v1 : Vector Int 64} {v2 : Vector Int 64} {a3 : AV} {a4 : AV} {a5 : AV} : At ((a0) :: ((List.map C51 v1.toList) ++ (((List.map C3 v2.toList) ++ ((a3) :: (a4) :: (a5) :: []))))) 130 1 ([a4]) := atc (o := 129) (ata (m := 64) (o := 65) arL (ata (m := 64) (o := 1) arL (atc (o := 0) (at0 (hdc (n := 0) hd0)))))
theorem at9 {a0 : AV} {v1 : Vector Int 64} {v2 : Vector Int 64} {a3 : AV} {a4 : AV} {a5 : AV} : At ((a0) :: ((List.map C51 v1.toList) ++ (((List.map C3 v2.toList) ++ ((a3) :: (a4) :: (a5) :: []))))) 131 1 ([a5]) := atc (o := 130) (ata (m := 64) (o := 66) arL (ata (m := 64) (o := 2) arL (atc (o := 1) (atc (o := 0) (at0 (hdc (n := 0) hd0))))))
theorem D56 (x : api_Rest) : (R56 x).length = Tryz.prog.cellsOf 56 ∧ (R56 x).all datB = true := ⟨Eq.trans (b := 132) ln0 tZ_56.symm, al3⟩
instance : RowD Tryz.prog 56 R56 := ⟨D56⟩
def FK3 (x : Int) : AV := .int .i64 x
theorem ZaD : KeyOK Tryz.prog 3 FK3 kqI := ZpN (fun _ => rfl) tI3
def Zbe (x : Fv (Int → Option Int)) : Prop := x.c.all datB = true ∧ ∀ z0 r, x.fn z0 = some r → CSpec Tryz.prog gl0 x.f ([.int .i64 z0] ++ x.c) (.int .i64 r)
def Zbh (x : Fv (Int → Option (Int × Bool))) : Prop := x.c.all datB = true ∧ ∀ z0 r, x.fn z0 = some r → CSpec Tryz.prog gl0 x.f ([.int .i64 z0] ++ x.c) (.tuple [.int .i64 r.1, .bool r.2])
def R59 (x : api_Sample) : List AV := [.int .i64 x.At, .int .i64 x.N, .int .i64 x.Mark]
theorem D59 (x : api_Sample) : (R59 x).length = Tryz.prog.cellsOf 59 ∧ (R59 x).all datB = true := ⟨tZ_59.symm, rfl⟩
instance : RowD Tryz.prog 59 R59 := ⟨D59⟩
def R5 (x : Int) : List AV := [.int .u8 x]
theorem D5 (x : Int) : (R5 x).length = Tryz.prog.cellsOf 5 ∧ (R5 x).all datB = true := ⟨tZ_5.symm, rfl⟩
instance : RowD Tryz.prog 5 R5 := ⟨D5⟩
def C5 (x : Int) : AV := .int .u8 x
def Xp (x : Vector Int 3) : AV := .agg (List.map C3 x.toList)
theorem Zop : KeyOK Tryz.prog 145 Xp kqV := ZpM (fun _ => rfl) Zq8
def FV4 (x : Bool) : AV := .bool x
def R170 (x : api_Flaw) : List AV := [.int .i64 x.Word, .int .i64 x.Kind]
theorem D170 (x : api_Flaw) : (R170 x).length = Tryz.prog.cellsOf 170 ∧ (R170 x).all datB = true := ⟨tZ_170.symm, rfl⟩
instance : RowD Tryz.prog 170 R170 := ⟨D170⟩
def R129 (x : api_Where) : List AV := [.int .i64 x.Number, .int .i64 x.Word]
theorem D129 (x : api_Where) : (R129 x).length = Tryz.prog.cellsOf 129 ∧ (R129 x).all datB = true := ⟨tZ_129.symm, rfl⟩
instance : RowD Tryz.prog 129 R129 := ⟨D129⟩
theorem QS {n : Int} {low : Int} {high : Int} {r : Bool} (h : QK n low high = some r) :
 CSpec Tryz.prog gl0 55 [.int .i64 n, .int .i64 low, .int .i64 high] (.bool r) := by
 unfold QK at h
 replace h := ZE h
 refine So Tryz.func55 Y fun w0 A=>Tr<|Ra Y<|Za<|Tr<|Rm Y<|Rm Y<|R2 JP Y<|Rm Y<|Rq Y (.guarded ((decide (low ≤ n)) == true) Y Y Y Y fun h => Zm<|ov Y)<|Rq Y (.guarded ((decide (low ≤ n)) == true) Y Y Y Y fun h => Zm<|ov Y)<|Rq Y (.guarded ((decide (low ≤ n)) == true) Y Y Y Y fun h => ZaZ (ow Y h)<|ow Y h)<|Rq Y (Ql (ov Y) fun hp=>ow Y<|gT hp)<|Ra Y<|Za<|?_
 obtain rfl := rt h
 exact Zi (Zq Y (.one<|rb Y))
theorem ZoB {s : Str} {f : Int → Option Bool} {r : Bool} {f_f : FuncId} {f_c : List AV} (f_d : f_c.all datB = true) (f_h : ∀ (z0 : Int) z, f z0 = some z → CSpec Tryz.prog gl0 f_f ([.int .i32 z0] ++ f_c) (.bool z)) (h : Za3 s f = some r) :
    CSpec Tryz.prog gl0 105 [.str s, .fn f_f f_c] (.bool r) :=
  Zin (by kernel_rfl) (fun g lb eg p s w hp => Any.strings_ContainsFunc_grows Tryz.laysGw17 g lb eg p s w hp) f_d f_h h
theorem Zgv {c_ : Int} {r : Bool} (h : ZbE c_ = some r) :
 CSpec Tryz.prog gl0 106 [.int .i32 c_] (.bool r) := by
 unfold ZbE at h
 replace h := ZE h
 refine So Tryz.func106 Y fun w0 A=>Tr<|Ra Y<|Za<|Tr<|Rm Y<|R2 JP Y<|Rm Y<|Rq Y (.guarded ((decide (97 ≤ c_)) == true) Y Y Y Y fun h => Zm<|ov Y)<|Rq Y (.guarded ((decide (97 ≤ c_)) == true) Y Y Y Y fun h => ZaZ (ow Y h)<|ov Y)<|Rq Y (Ql (ov Y) fun hp=>ow Y<|gT hp)<|Rm Y<|Rq Y (.guarded (((decide (97 ≤ c_)) && (decide (c_ ≤ 122))) == false) Y Y Y Y fun h => Zm<|ov Y)<|Rq Y (.guarded (((decide (97 ≤ c_)) && (decide (c_ ≤ 122))) == false) Y Y Y Y fun h => JP (ow Y h)<|ov Y)<|Rq Y (.guarded (((decide (97 ≤ c_)) && (decide (c_ ≤ 122))) == false) Y Y Y Y fun h => Zm<|ow Y h)<|Rq Y (.guarded2 ((((decide (97 ≤ c_)) && (decide (c_ ≤ 122))) == false) && ((decide (48 ≤ c_)) == true)) Y Y Y Y fun h => Zm<|ov Y)<|Rq Y (.guarded2 ((((decide (97 ≤ c_)) && (decide (c_ ≤ 122))) == false) && ((decide (48 ≤ c_)) == true)) Y Y Y Y fun h => ZaZ (ow Y h)<|ov Y)<|Rq Y (.guarded (((decide (97 ≤ c_)) && (decide (c_ ≤ 122))) == false) Y Y Y Y fun h => Ql (ow Y h) fun hp=>ow Y<|gA h<|gT hp)<|Rq Y (QB (ov Y) fun hp=>ow Y<|gF hp)<|Rm Y<|Rq Y (.guarded ((((decide (97 ≤ c_)) && (decide (c_ ≤ 122))) || ((decide (48 ≤ c_)) && (decide (c_ ≤ 57)))) == false) Y Y Y Y fun h => Zm<|ov Y)<|Rq Y (.guarded ((((decide (97 ≤ c_)) && (decide (c_ ≤ 122))) || ((decide (48 ≤ c_)) && (decide (c_ ≤ 57)))) == false) Y Y Y Y fun h => Z4 (ow Y h)<|ov Y)<|Rq Y (QB (ov Y) fun hp=>ow Y<|gF hp)<|R1 Z0 Y<|Ra Y<|Za<|?_
 obtain rfl := rt h
 exact Zi (Zq Y (.one<|rb Y))
theorem Zeg {s : Str} {r : Bool} (h : Zam s = some r) :
 CSpec Tryz.prog gl0 83 [.str s] (.bool r) := by
 unfold Zam at h
 replace h := ZE h
 refine So Tryz.func83 Y fun w0 A=>Tr<|Ra Y<|Za<|Zj<|K1 0 Y<|Tr<|Rm Y<|Rq Y (Zfl (ov Y) Zd0 Y)<|R2 Zw Y<|Rm Y<|Rq Y (.guarded ((decide ((s.length : Int) < 1)) == false) Y Y Y Y fun h => Zm<|ov Y)<|Rq Y (.guarded ((decide ((s.length : Int) < 1)) == false) Y Y Y Y fun h => Zfl (ow Y h) Zd0 Y)<|Rq Y (.guarded ((decide ((s.length : Int) < 1)) == false) Y Y Y Y fun h => Qj (ow Y h)<|ov Y)<|Rq Y (QB (ov Y) fun hp=>ow Y<|gF hp)<|Rm Y<|Rq Y (.guarded (((decide ((s.length : Int) < 1)) || (decide (30 < (s.length : Int)))) == false) Y Y Y Y fun h => Zm<|ov Y)<|bE h fun b h_b h=>Rq Y (.guarded (((decide ((s.length : Int) < 1)) || (decide (30 < (s.length : Int)))) == false) Y Y Y Y fun h => Zfj (ow Y h) (ov Y) Zd0<|gdT h_b h)<|Rq Y (.guarded (((decide ((s.length : Int) < 1)) || (decide (30 < (s.length : Int)))) == false) Y Y Y Y fun h => Zw (ow Y h)<|ov Y)<|Rq Y (QB (ov Y) fun hp=>ow Y<|gF hp)<|Rm Y<|Rq Y (.guarded ((((decide ((s.length : Int) < 1)) || (decide (30 < (s.length : Int)))) || (decide (b < 97))) == false) Y Y Y Y fun h => Zm<|ov Y)<|bE h fun b2 h_b2 h=>Rq Y (.guarded ((((decide ((s.length : Int) < 1)) || (decide (30 < (s.length : Int)))) || (decide (b < 97))) == false) Y Y Y Y fun h => Zfj (ow Y h) (ov Y) Zd0<|gdT h_b2 h)<|Rq Y (.guarded ((((decide ((s.length : Int) < 1)) || (decide (30 < (s.length : Int)))) || (decide (b < 97))) == false) Y Y Y Y fun h => Qj (ow Y h)<|ov Y)<|Rq Y (QB (ov Y) fun hp=>ow Y<|gF hp)<|Za<|K2 0 20 Y<|If h Y (fun h=>?_) fun h=>?_
 ·
  refine K0<|Tr<|Ra Y<|Za<|?_
  obtain rfl := rt h
  exact Zi (Zq Y (.one<|rb Y))
 ·
  refine Ze<|K1 0 Y<|Tr<|Rm Y<|bE h fun y h_y h=>Rq Y (Zl (ZoB Y (fun z0 _ hz=>Zgv hz) h_y)<|.cons (ov Y) (.b Y)<|.cons (ov Y) .fn .nil)<|R1 Z0 Y<|Ra Y<|Za<|?_
  obtain rfl := rt h
  exact Zi (Zq Y (.one<|rb Y))
theorem Zcs {p : api_Param} {r : Int} (h : XN p = some r) :
 CSpec Tryz.prog gl0 107 [.agg [.str p.Name, .int .i64 p.Kind, .sl 121 (List.map Z9 p.Parts), .int .i64 p.First, .int .i64 p.Every, .int .i64 p.Times, .int .i64 p.Step, .sl 9 (List.map R9 p.Names)]] (.int .i64 r) := by
 unfold XN at h
 replace h := ZE h
 refine So Tryz.func107 Y fun w0 A=>Tr<|Rq Y (Zv (cva<|ov Y) Y tZ_45 Y)<|Ra Y<|Za<|K1 1 Y<|Tr<|Ra Y<|Za<|I1 (fun n=>⟨[(3, .int .i64 n)], []⟩) h (fun h=>?_) fun n h=>?_
 ·
  refine Tr<|Rq Y (Zc (ov Y) Zce)<|Rq Y (Zb (ov Y) Zhr Y)<|Rl tZ_121 Zdh Y<|Rm Y<|Za<|Zf<|?_
  obtain ⟨r1, hl1, ho1⟩ := Z1 h
  refine L2 (fun n2 i=>⟨[(3, .int .i64 n2), (7, .sl 121 (List.map Z9 p.Parts)), (8, .int .i64 (p.Parts.length : Int)), (9, .int .i64 i)], []⟩) hl1 (ES []) fun n1 n2 i h=>?_
  unfold XR at h
  refine Tr<|R2 Zw Y<|Za<|Zj<|If h Y (fun h=>?_) fun h=>?_
  ·
   exact Ze<|Zj<|Zf<|K4 3 7 8 9 Y<|Tr<|bE h fun x h_x h=>Rq Y (Zx (ov Y) (ov Y) Zdh h_x)<|Rq Y (Zh (ov Y) ZbN Y Y)<|Rx Y (Zt (row := [_, _, _, _]) 0 Y Zhj Y tZ_121)<|Rx Y (Zo (ov Y) (ov Y) (Zk ZbN Y) Y Y Y (Nat.le_of_ble_eq_true Y) (Zd Y) Y)<|Za<|K5 3 5 7 8 9 Y<|Zs<|Rm Y<|Rq Y (Zg (ov Y) Y Y Zf2)<|Rq Y (Zn (ov Y) Y Y Y tS3 Y)<|R2 ZB Y<|Ra Y<|Za<|K4 3 7 8 9 Y<|Zs<|R2 ZB Y<|Rm Y<|Za<|⟨_, h, ES []⟩
  ·
   refine Zu<|?_
   replace h := lx h ▸ ho1
   exact ⟨_, h, ES []⟩
 ·
  refine Tr<|Rm Y<|Ra Y<|Za<|?_
  obtain rfl := rt h
  exact Zi (Zq Y (.one<|rb Y))
theorem Zeo {s : List Int} {v : Int} {r : Int} (h : Jr s v = some r) :
 CSpec Tryz.prog gl0 125 [.sl 3 (List.map R3 s), .int .i64 v] (.int .i64 r) := by
 unfold Jr at h
 replace h := ZE h
 refine So Tryz.func125 Y fun w0 A=>Tr<|Ra Y<|Za<|J0 (fun j => (.inr j)) ⟨[], []⟩ h (fun h=>?_) fun h=>?_
 ·
  refine K2 0 1 Y<|Tr<|Rm Y<|Rl tZ_3 Zea Y<|Rm Y<|Za<|Zf<|?_
  obtain ⟨r1, hl1, ho1⟩ := Z1 h
  refine L1 (fun i=>⟨[(0, .sl 3 (List.map R3 s)), (1, .int .i64 v), (7, .int .i64 (s.length : Int)), (8, .int .i64 i)], []⟩) hl1 (ES []) fun n1 i h=>?_
  unfold Qs at h
  refine Tr<|R2 Zw Y<|Za<|Zj<|If h Y (fun h=>?_) fun h=>?_
  ·
   refine Ze<|Zj<|Zf<|K4 0 1 7 8 Y<|Tr<|Rm Y<|Ra Y<|Za<|K5 0 1 5 7 8 Y<|Tr<|Rm Y<|Rm Y<|Rm Y<|bE h fun x h_x h=>Rq Y (Zx (ov Y) (ov Y) Zea h_x)<|Rq Y (Zb (ov Y) tS3 Y)<|R2 Z4 Y<|Za<|K6 0 1 5 7 8 16 Y<|If h Y (fun h=>?_) fun h=>?_
   ·
    refine K1 5 Y<|Tr<|Rm Y<|Ra Y<|Za<|?_
    replace h := lx h ▸ ho1
    obtain rfl := rt h
    exact Zi (Zq Y (.one<|rb Y))
   ·
    exact Ze<|K4 0 1 7 8 Y<|Zs<|R2 ZB Y<|Rm Y<|Za<|⟨_, h, ES []⟩
  ·
   refine Zu<|?_
   replace h := lx h ▸ ho1
   exact ⟨_, h, ES []⟩
 ·
  replace h := elr h
  replace h := t0i h
  refine Tr<|Ra Y<|Za<|?_
  obtain rfl := rt h
  exact Zi (Zq Y (.one<|rb Y))
theorem ZdA {s : List Int} {v : Int} {r : Bool} (h : QQ s v = some r) :
 CSpec Tryz.prog gl0 108 [.sl 3 (List.map R3 s), .int .i64 v] (.bool r) := by
 unfold QQ at h
 replace h := ZE h
 refine So Tryz.func108 Y fun w0 A=>Tr<|Ra Y<|Za<|Tr<|Rm Y<|Rm Y<|bE h fun y h_y h=>Rq Y (Zl (Zeo h_y)<|.cons (ov Y) (.b Y)<|.cons (ov Y) (.b Y) .nil)<|R2 JP Y<|Ra Y<|Za<|?_
 obtain rfl := rt h
 exact Zi (Zq Y (.one<|rb Y))
theorem ZfL {p : api_Param} {r : Int} (h : Jo p = some r) :
 CSpec Tryz.prog gl0 84 [.agg [.str p.Name, .int .i64 p.Kind, .sl 121 (List.map Z9 p.Parts), .int .i64 p.First, .int .i64 p.Every, .int .i64 p.Times, .int .i64 p.Step, .sl 9 (List.map R9 p.Names)]] (.int .i64 r) := by
 unfold Jo at h
 replace h := ZE h
 refine So Tryz.func84 Y fun w0 A=>Tr<|Rq Y (Zv (cva<|ov Y) Y tZ_45 Y)<|Ra Y<|Za<|Zj<|Zf<|K1 1 Y<|Tr<|Rq Y (Zc (ov Y) Zce)<|Rq Y (Zb (ov Y) Zhr Y)<|Rl tZ_121 Zdh Y<|R2 Z4 Y<|Ra Y<|Za<|K2 1 8 Y<|If h Y (fun h=>?_) fun h=>?_
 ·
  refine K0<|Tr<|Ra Y<|Za<|?_
  obtain rfl := rt h
  exact Zi (Zq Y (.one<|rb Y))
 ·
  refine K1 1 Y<|Tr<|Rq Y (Zc (ov Y) Zce)<|Rq Y (Zb (ov Y) Zhr Y)<|Rl tZ_121 Zdh Y<|R2 Qj Y<|Ra Y<|Za<|K2 1 13 Y<|If h Y (fun h=>?_) fun h=>?_
  ·
   refine K0<|Tr<|Ra Y<|Za<|?_
   obtain rfl := rt h
   exact Zi (Zq Y (.one<|rb Y))
  ·
   refine Ze<|J0 (fun j => (.inr j)) ⟨[(1, .rp [.str p.Name, .int .i64 p.Kind, .sl 121 (List.map Z9 p.Parts), .int .i64 p.First, .int .i64 p.Every, .int .i64 p.Times, .int .i64 p.Step, .sl 9 (List.map R9 p.Names)] 0)], []⟩ h (fun h=>?_) fun h=>?_
   ·
    refine K1 1 Y<|Tr<|Rq Y (Zc (ov Y) Zce)<|Rq Y (Zb (ov Y) Zhr Y)<|Rl tZ_121 Zdh Y<|Rm Y<|Za<|Zf<|?_
    obtain ⟨r1, hl1, ho1⟩ := Z1 h
    refine L1 (fun i=>⟨[(1, .rp [.str p.Name, .int .i64 p.Kind, .sl 121 (List.map Z9 p.Parts), .int .i64 p.First, .int .i64 p.Every, .int .i64 p.Times, .int .i64 p.Step, .sl 9 (List.map R9 p.Names)] 0), (19, .sl 121 (List.map Z9 p.Parts)), (20, .int .i64 (p.Parts.length : Int)), (21, .int .i64 i)], []⟩) hl1 (ES []) fun n1 i h=>?_
    unfold Qx at h
    refine Tr<|R2 Zw Y<|Za<|Zj<|If h Y (fun h=>?_) fun h=>?_
    ·
     refine Ze<|Zj<|Zf<|K4 1 19 20 21 Y<|Tr<|bE h fun x h_x h=>Rq Y (Zx (ov Y) (ov Y) Zdh h_x)<|Rq Y (Zh (ov Y) ZbN Y Y)<|Rx Y (Zt (row := [_, _, _, _]) 0 Y Zhj Y tZ_121)<|Rx Y (Zo (ov Y) (ov Y) (Zk ZbN Y) Y Y Y (Nat.le_of_ble_eq_true Y) (Zd Y) Y)<|Za<|K5 1 4 19 20 21 Y<|Tr<|Rq Y (Zg (ov Y) Y Y Zf5)<|Rq Y (Zn (ov Y) Y Y Y tS3 Y)<|bE h fun y h_y h=>Rq Y (Zl (QS h_y)<|.cons (ov Y) (.b Y)<|.cons (ov Y) (.b Y)<|.cons (ov Y) (.b Y) .nil)<|R1 Z0 Y<|Rm Y<|Rq Y (.guarded ((!y) == false) Y Y Y Y fun h => Zg (ov Y) Y Y ZfQ)<|Rq Y (.guarded ((!y) == false) Y Y Y Y fun h => Zn (ow Y h) Y Y Y tS3 Y)<|bE h fun y2 h_y2 h=>Rq Y (.guarded ((!y) == false) Y Y Y Y fun h => Zl (QS<|gdT h_y2 h)<|.cons (ow Y h) (.b Y)<|.cons (ov Y) (.b Y)<|.cons (ov Y) (.b Y) .nil)<|Rq Y (.guarded ((!y) == false) Y Y Y Y fun h => Z0<|ow Y h)<|Rq Y (QB (ov Y) fun hp=>ow Y<|gF hp)<|Rm Y<|Rq Y (.guarded (((!y) || (!y2)) == false) Y Y Y Y fun h => Zg (ov Y) Y Y ZfR)<|Rq Y (.guarded (((!y) || (!y2)) == false) Y Y Y Y fun h => Zn (ow Y h) Y Y Y tS3 Y)<|bE h fun y3 h_y3 h=>Rq Y (.guarded (((!y) || (!y2)) == false) Y Y Y Y fun h => Zl (QS<|gdT h_y3 h)<|.cons (ow Y h) (.b Y)<|.cons (ov Y) (.b Y)<|.cons (ov Y) (.b Y) .nil)<|Rq Y (.guarded (((!y) || (!y2)) == false) Y Y Y Y fun h => Z0<|ow Y h)<|Rq Y (QB (ov Y) fun hp=>ow Y<|gF hp)<|Rm Y<|Rq Y (.guarded ((((!y) || (!y2)) || (!y3)) == false) Y Y Y Y fun h => Zg (ov Y) Y Y Zf2)<|Rq Y (.guarded ((((!y) || (!y2)) || (!y3)) == false) Y Y Y Y fun h => Zn (ow Y h) Y Y Y tS3 Y)<|Rq Y (.guarded ((((!y) || (!y2)) || (!y3)) == false) Y Y Y Y fun h => Zg (ov Y) Y Y ZfR)<|Rq Y (.guarded ((((!y) || (!y2)) || (!y3)) == false) Y Y Y Y fun h => Zn (ow Y h) Y Y Y tS3 Y)<|Rq Y (.guarded ((((!y) || (!y2)) || (!y3)) == false) Y Y Y Y fun h => ZfJ (ov Y) (ow Y h) Y)<|bE h fun y4 h_y4 h=>Rq Y (.guarded ((((!y) || (!y2)) || (!y3)) == false) Y Y Y Y fun h => Zl (QS<|gdT h_y4 h)<|.cons (ow Y h) (.b Y)<|.cons (ov Y) (.b Y)<|.cons (ow Y h) (.b Y) .nil)<|Rq Y (.guarded ((((!y) || (!y2)) || (!y3)) == false) Y Y Y Y fun h => Z0<|ow Y h)<|Rq Y (QB (ov Y) fun hp=>ow Y<|gF hp)<|Za<|K5 1 19 20 21 49 Y<|If h Y (fun h=>?_) fun h=>?_
     ·
      refine K0<|Tr<|Ra Y<|Za<|?_
      replace h := lx h ▸ ho1
      obtain rfl := rt h
      exact Zi (Zq Y (.one<|rb Y))
     ·
      exact Ze<|K4 1 19 20 21 Y<|Zs<|R2 ZB Y<|Rm Y<|Za<|⟨_, h, ES []⟩
    ·
     refine Zu<|?_
     replace h := lx h ▸ ho1
     exact ⟨_, h, ES []⟩
   ·
    replace h := elr h
    replace h := t0i h
    refine Zj<|Tr<|Rq Y (Zh (ov Y) Q7 Y Y)<|bE h fun y5 h_y5 h=>Rq Y (Zl (Zcs h_y5)<|.cons (ov Y) (.aggB Y) .nil)<|R2 Qj Y<|Za<|K2 1 53 Y<|If h Y (fun h=>?_) fun h=>?_
    ·
     refine K0<|Tr<|Ra Y<|Za<|?_
     obtain rfl := rt h
     exact Zi (Zq Y (.one<|rb Y))
    ·
     refine Ze<|K1 1 Y<|Tr<|R_q (.sl 3<|List.map R3 ([1, 2, 4, 8, 16] : List Int)) Y (JO Zea (.cons (cvs (ov Y)<|Zp Y) Y (.cons (.b Y) .nil)<|.cons (cvs (ov Y)<|Zp Y) Y (.cons (.b Y) .nil)<|.cons (cvs (ov Y)<|Zp Y) Y (.cons (.b Y) .nil)<|.cons (cvs (ov Y)<|Zp Y) Y (.cons (.b Y) .nil)<|.cons (cvs (ov Y)<|Zp Y) Y (.cons (.b Y) .nil) .nil) Y Y)<|Rq Y (Zc (ov Y) ZhI)<|Rq Y (Zb (ov Y) tS3 Y)<|bE h fun y6 h_y6 h=>Rq Y (Zl (ZdA h_y6)<|.cons (ov Y) (.b Y)<|.cons (ov Y) (.b Y) .nil)<|Ra Y<|Za<|Zj<|K2 1 5 Y<|Tr<|Rm Y<|R1 Z0 Y<|Rm Y<|Rq Y (.guarded ((!y6) == false) Y Y Y Y fun h => Zc (ov Y) Zkx)<|Rq Y (.guarded ((!y6) == false) Y Y Y Y fun h => Zb (ow Y h) tS3 Y)<|Rq Y (.guarded ((!y6) == false) Y Y Y Y fun h => Zc (ov Y) ZhI)<|Rq Y (.guarded ((!y6) == false) Y Y Y Y fun h => Zb (ow Y h) tS3 Y)<|Rq Y (.guarded ((!y6) == false) Y Y Y Y fun h => ZfJ (ow Y h) (ov Y) Y)<|bE h fun y7 h_y7 h=>Rq Y (.guarded ((!y6) == false) Y Y Y Y fun h => Zl (QS<|gdT h_y7 h)<|.cons (ow Y h) (.b Y)<|.cons (ov Y) (.b Y)<|.cons (ow Y h) (.b Y) .nil)<|Rq Y (.guarded ((!y6) == false) Y Y Y Y fun h => Z0<|ow Y h)<|Rq Y (QB (ov Y) fun hp=>ow Y<|gF hp)<|Rm Y<|Rq Y (.guarded (((!y6) || (!y7)) == false) Y Y Y Y fun h => Zc (ov Y) ZcE)<|Rq Y (.guarded (((!y6) || (!y7)) == false) Y Y Y Y fun h => Zb (ow Y h) tS3 Y)<|bE h fun y8 h_y8 h=>Rq Y (.guarded (((!y6) || (!y7)) == false) Y Y Y Y fun h => Zl (QS<|gdT h_y8 h)<|.cons (ow Y h) (.b Y)<|.cons (ov Y) (.b Y)<|.cons (ov Y) (.b Y) .nil)<|Rq Y (.guarded (((!y6) || (!y7)) == false) Y Y Y Y fun h => Z0<|ow Y h)<|Rq Y (QB (ov Y) fun hp=>ow Y<|gF hp)<|Rm Y<|Rq Y (.guarded ((((!y6) || (!y7)) || (!y8)) == false) Y Y Y Y fun h => Zc (ov Y) Zd7)<|Rq Y (.guarded ((((!y6) || (!y7)) || (!y8)) == false) Y Y Y Y fun h => Zb (ow Y h) tS3 Y)<|Rq Y (.guarded ((((!y6) || (!y7)) || (!y8)) == false) Y Y Y Y fun h => Zw (ow Y h)<|ov Y)<|Rq Y (QB (ov Y) fun hp=>ow Y<|gF hp)<|Rm Y<|Rq Y (.guarded (((((!y6) || (!y7)) || (!y8)) || (decide (p.Step < 0))) == false) Y Y Y Y fun h => Zc (ov Y) Zd7)<|Rq Y (.guarded (((((!y6) || (!y7)) || (!y8)) || (decide (p.Step < 0))) == false) Y Y Y Y fun h => Zb (ow Y h) tS3 Y)<|Rq Y (.guarded (((((!y6) || (!y7)) || (!y8)) || (decide (p.Step < 0))) == false) Y Y Y Y fun h => Z4 (ow Y h)<|ov Y)<|Rq Y (.guarded (((((!y6) || (!y7)) || (!y8)) || (decide (p.Step < 0))) == false) Y Y Y Y fun h => Zc (ov Y) ZcE)<|Rq Y (.guarded (((((!y6) || (!y7)) || (!y8)) || (decide (p.Step < 0))) == false) Y Y Y Y fun h => Zb (ow Y h) tS3 Y)<|Rq Y (.guarded (((((!y6) || (!y7)) || (!y8)) || (decide (p.Step < 0))) == false) Y Y Y Y fun h => Z4 (ow Y h)<|ov Y)<|Rq Y (.guarded (((((!y6) || (!y7)) || (!y8)) || (decide (p.Step < 0))) == false) Y Y Y Y fun h => Ziy .neq (by simp) (ow Y h) (ow Y h) tB4)<|Rq Y (QB (ov Y) fun hp=>ow Y<|gF hp)<|Za<|K2 1 88 Y<|If h Y (fun h=>?_) fun h=>?_
     ·
      refine K0<|Tr<|Ra Y<|Za<|?_
      obtain rfl := rt h
      exact Zi (Zq Y (.one<|rb Y))
     ·
      refine Ze<|J0 (fun j => (.inr j)) ⟨[], []⟩ h (fun h=>?_) fun h=>?_
      ·
       refine K1 1 Y<|Tr<|Rq Y (Zc (ov Y) Zce)<|Rq Y (Zb (ov Y) Zhr Y)<|Rl tZ_121 Zdh Y<|Rm Y<|Za<|Zf<|?_
       obtain ⟨r2, hl2, ho2⟩ := Z1 h
       refine L1 (fun i2=>⟨[(1, .rp [.str p.Name, .int .i64 p.Kind, .sl 121 (List.map Z9 p.Parts), .int .i64 p.First, .int .i64 p.Every, .int .i64 p.Times, .int .i64 p.Step, .sl 9 (List.map R9 p.Names)] 0), (90, .sl 121 (List.map Z9 p.Parts)), (91, .int .i64 (p.Parts.length : Int)), (92, .int .i64 i2)], []⟩) hl2 (ES []) fun n2 i2 h=>?_
       unfold Xk at h
       refine Tr<|R2 Zw Y<|Za<|Zj<|If h Y (fun h=>?_) fun h=>?_
       ·
        refine Ze<|Zj<|Zf<|K4 1 90 91 92 Y<|Tr<|bE h fun x2 h_x2 h=>Rq Y (Zx (ov Y) (ov Y) Zdh h_x2)<|Rq Y (Zh (ov Y) ZbN Y Y)<|Rx Y (Zt (row := [_, _, _, _]) 0 Y Zhj Y tZ_121)<|Rx Y (Zo (ov Y) (ov Y) (Zk ZbN Y) Y Y Y (Nat.le_of_ble_eq_true Y) (Zd Y) Y)<|Za<|K5 1 7 90 91 92 Y<|Tr<|Rq Y (Zc (ov Y) Zd7)<|Rq Y (Zb (ov Y) tS3 Y)<|R2 Qj Y<|Rm Y<|Rq Y (.guarded ((decide (60 < p.Step)) == false) Y Y Y Y fun h => Zg (ov Y) Y Y ZfQ)<|Rq Y (.guarded ((decide (60 < p.Step)) == false) Y Y Y Y fun h => Zn (ow Y h) Y Y Y tS3 Y)<|Rq Y (.guarded ((decide (60 < p.Step)) == false) Y Y Y Y fun h => Zc (ov Y) ZcE)<|Rq Y (.guarded ((decide (60 < p.Step)) == false) Y Y Y Y fun h => Zb (ow Y h) tS3 Y)<|Rq Y (.guarded ((decide (60 < p.Step)) == false) Y Y Y Y fun h => ZfJ (ow Y h) (ov Y) Y)<|Rq Y (.guarded ((decide (60 < p.Step)) == false) Y Y Y Y fun h => Zc (ov Y) Zd7)<|Rq Y (.guarded ((decide (60 < p.Step)) == false) Y Y Y Y fun h => Zb (ow Y h) tS3 Y)<|Rq Y (.guarded ((decide (60 < p.Step)) == false) Y Y Y Y fun h => Zm7 (ow Y h) (ow Y h) Y)<|Rq Y (.guarded ((decide (60 < p.Step)) == false) Y Y Y Y fun h => Zjq (ow Y h) (ow Y h) Y)<|Rq Y (.guarded ((decide (60 < p.Step)) == false) Y Y Y Y fun h => Qj (ow Y h)<|ov Y)<|Rq Y (QB (ov Y) fun hp=>ow Y<|gF hp)<|Za<|K5 1 90 91 92 110 Y<|If h Y (fun h=>?_) fun h=>?_
        ·
         refine K0<|Tr<|Ra Y<|Za<|?_
         replace h := lx h ▸ ho2
         obtain rfl := rt h
         exact Zi (Zq Y (.one<|rb Y))
        ·
         exact Ze<|K4 1 90 91 92 Y<|Zs<|R2 ZB Y<|Rm Y<|Za<|⟨_, h, ES []⟩
       ·
        refine Zu<|?_
        replace h := lx h ▸ ho2
        exact ⟨_, h, ES []⟩
      ·
       replace h := elr h
       replace h := t0i h
       refine Tr<|Ra Y<|Za<|?_
       obtain rfl := rt h
       exact Zi (Zq Y (.one<|rb Y))
theorem ZcT {s : List Str} {v : Str} {r : Int} (h : QX s v = some r) :
 CSpec Tryz.prog gl0 126 [.sl 9 (List.map R9 s), .str v] (.int .i64 r) := by
 unfold QX at h
 replace h := ZE h
 refine So Tryz.func126 Y fun w0 A=>Tr<|Ra Y<|Za<|J0 (fun j => (.inr j)) ⟨[], []⟩ h (fun h=>?_) fun h=>?_
 ·
  refine K2 0 1 Y<|Tr<|Rm Y<|Rl tZ_9 Zeh Y<|Rm Y<|Za<|Zf<|?_
  obtain ⟨r1, hl1, ho1⟩ := Z1 h
  refine L1 (fun i=>⟨[(0, .sl 9 (List.map R9 s)), (1, .str v), (7, .int .i64 (s.length : Int)), (8, .int .i64 i)], []⟩) hl1 (ES []) fun n1 i h=>?_
  unfold Z8 at h
  refine Tr<|R2 Zw Y<|Za<|Zj<|If h Y (fun h=>?_) fun h=>?_
  ·
   refine Ze<|Zj<|Zf<|K4 0 1 7 8 Y<|Tr<|Rm Y<|Ra Y<|Za<|K5 0 1 5 7 8 Y<|Tr<|Rm Y<|Rm Y<|Rm Y<|bE h fun x h_x h=>Rq Y (Zx (ov Y) (ov Y) Zeh h_x)<|Rq Y (Zb (ov Y) tS9 Y)<|R2 ZdG Y<|Za<|K6 0 1 5 7 8 16 Y<|If h Y (fun h=>?_) fun h=>?_
   ·
    refine K1 5 Y<|Tr<|Rm Y<|Ra Y<|Za<|?_
    replace h := lx h ▸ ho1
    obtain rfl := rt h
    exact Zi (Zq Y (.one<|rb Y))
   ·
    exact Ze<|K4 0 1 7 8 Y<|Zs<|R2 ZB Y<|Rm Y<|Za<|⟨_, h, ES []⟩
  ·
   refine Zu<|?_
   replace h := lx h ▸ ho1
   exact ⟨_, h, ES []⟩
 ·
  replace h := elr h
  replace h := t0i h
  refine Tr<|Ra Y<|Za<|?_
  obtain rfl := rt h
  exact Zi (Zq Y (.one<|rb Y))
theorem Zb2 {s : List Str} {v : Str} {r : Bool} (h : Qm s v = some r) :
 CSpec Tryz.prog gl0 109 [.sl 9 (List.map R9 s), .str v] (.bool r) := by
 unfold Qm at h
 replace h := ZE h
 refine So Tryz.func109 Y fun w0 A=>Tr<|Ra Y<|Za<|Tr<|Rm Y<|Rm Y<|bE h fun y h_y h=>Rq Y (Zl (ZcT h_y)<|.cons (ov Y) (.b Y)<|.cons (ov Y) (.b Y) .nil)<|R2 JP Y<|Ra Y<|Za<|?_
 obtain rfl := rt h
 exact Zi (Zq Y (.one<|rb Y))
theorem ZfM {p : api_Param} {r : Int} (h : Jg p = some r) :
 CSpec Tryz.prog gl0 85 [.agg [.str p.Name, .int .i64 p.Kind, .sl 121 (List.map Z9 p.Parts), .int .i64 p.First, .int .i64 p.Every, .int .i64 p.Times, .int .i64 p.Step, .sl 9 (List.map R9 p.Names)]] (.int .i64 r) := by
 unfold Jg at h
 replace h := ZE h
 refine So Tryz.func85 Y fun w0 A=>Tr<|Rq Y (Zv (cva<|ov Y) Y tZ_45 Y)<|Ra Y<|Za<|K1 1 Y<|Tr<|Rq Y (Zh (ov Y) Q7 Y Y)<|bE h fun y h_y h=>Rq Y (Zl (Zcs h_y)<|.cons (ov Y) (.aggB Y) .nil)<|Ra Y<|Za<|Zj<|K2 1 3 Y<|Tr<|Rq Y (Zc (ov Y) ZbZ)<|Rq Y (Zb (ov Y) tS3 Y)<|R2 Z4 Y<|Rm Y<|Rq Y (.guarded ((decide (p.Kind = 4)) == true) Y Y Y Y fun h => Zm<|ov Y)<|bE h fun q h_q h=>Rq Y (.guarded ((decide (p.Kind = 4)) == true) Y Y Y Y fun h => ZaL (ow Y h) (ov Y)<|gdT h_q h)<|Rq Y (.guarded ((decide (p.Kind = 4)) == true) Y Y Y Y fun h => QC (ow Y h)<|ov Y)<|Rq Y (Ql (ov Y) fun hp=>ow Y<|gT hp)<|Rm Y<|Rq Y (.guarded (((decide (p.Kind = 4)) && (!decide (q = 0))) == false) Y Y Y Y fun h => Zc (ov Y) ZbZ)<|Rq Y (.guarded (((decide (p.Kind = 4)) && (!decide (q = 0))) == false) Y Y Y Y fun h => Zb (ow Y h) tS3 Y)<|Rq Y (.guarded (((decide (p.Kind = 4)) && (!decide (q = 0))) == false) Y Y Y Y fun h => Z4 (ow Y h)<|ov Y)<|Rq Y (.guarded (((decide (p.Kind = 4)) && (!decide (q = 0))) == false) Y Y Y Y fun h => Zm<|ow Y h)<|Rq Y (.guarded2 ((((decide (p.Kind = 4)) && (!decide (q = 0))) == false) && ((decide (p.Kind = 5)) == true)) Y Y Y Y fun h => Zm<|ov Y)<|Rq Y (.guarded2 ((((decide (p.Kind = 4)) && (!decide (q = 0))) == false) && ((decide (p.Kind = 5)) == true)) Y Y Y Y fun h => QC (ow Y h)<|ov Y)<|Rq Y (.guarded (((decide (p.Kind = 4)) && (!decide (q = 0))) == false) Y Y Y Y fun h => Ql (ow Y h) fun hp=>ow Y<|gA h<|gT hp)<|Rq Y (QB (ov Y) fun hp=>ow Y<|gF hp)<|Rm Y<|Rq Y (.guarded ((((decide (p.Kind = 4)) && (!decide (q = 0))) || ((decide (p.Kind = 5)) && (!decide (y = 1)))) == false) Y Y Y Y fun h => Zc (ov Y) ZbZ)<|Rq Y (.guarded ((((decide (p.Kind = 4)) && (!decide (q = 0))) || ((decide (p.Kind = 5)) && (!decide (y = 1)))) == false) Y Y Y Y fun h => Zb (ow Y h) tS3 Y)<|Rq Y (.guarded ((((decide (p.Kind = 4)) && (!decide (q = 0))) || ((decide (p.Kind = 5)) && (!decide (y = 1)))) == false) Y Y Y Y fun h => Z4 (ow Y h)<|ov Y)<|Rq Y (.guarded ((((decide (p.Kind = 4)) && (!decide (q = 0))) || ((decide (p.Kind = 5)) && (!decide (y = 1)))) == false) Y Y Y Y fun h => Zm<|ow Y h)<|Rq Y (.guarded2 (((((decide (p.Kind = 4)) && (!decide (q = 0))) || ((decide (p.Kind = 5)) && (!decide (y = 1)))) == false) && ((decide (p.Kind = 2)) == false)) Y Y Y Y fun h => Zc (ov Y) ZbZ)<|Rq Y (.guarded2 (((((decide (p.Kind = 4)) && (!decide (q = 0))) || ((decide (p.Kind = 5)) && (!decide (y = 1)))) == false) && ((decide (p.Kind = 2)) == false)) Y Y Y Y fun h => Zb (ow Y h) tS3 Y)<|Rq Y (.guarded2 (((((decide (p.Kind = 4)) && (!decide (q = 0))) || ((decide (p.Kind = 5)) && (!decide (y = 1)))) == false) && ((decide (p.Kind = 2)) == false)) Y Y Y Y fun h => Z4 (ow Y h)<|ov Y)<|Rq Y (.guarded ((((decide (p.Kind = 4)) && (!decide (q = 0))) || ((decide (p.Kind = 5)) && (!decide (y = 1)))) == false) Y Y Y Y fun h => QB (ow Y h) fun hp=>ow Y<|gA h<|gF hp)<|Rq Y (.guarded ((((decide (p.Kind = 4)) && (!decide (q = 0))) || ((decide (p.Kind = 5)) && (!decide (y = 1)))) == false) Y Y Y Y fun h => Zm<|ow Y h)<|Rq Y (.guarded2 (((((decide (p.Kind = 4)) && (!decide (q = 0))) || ((decide (p.Kind = 5)) && (!decide (y = 1)))) == false) && (((decide (p.Kind = 2)) || (decide (p.Kind = 3))) == true)) Y Y Y Y fun h => Zm<|ov Y)<|Rq Y (.guarded2 (((((decide (p.Kind = 4)) && (!decide (q = 0))) || ((decide (p.Kind = 5)) && (!decide (y = 1)))) == false) && (((decide (p.Kind = 2)) || (decide (p.Kind = 3))) == true)) Y Y Y Y fun h => Z4 (ow Y h)<|ov Y)<|Rq Y (.guarded ((((decide (p.Kind = 4)) && (!decide (q = 0))) || ((decide (p.Kind = 5)) && (!decide (y = 1)))) == false) Y Y Y Y fun h => Ql (ow Y h) fun hp=>ow Y<|gA h<|gT hp)<|Rq Y (QB (ov Y) fun hp=>ow Y<|gF hp)<|Za<|K3 1 3 38 Y<|If h Y (fun h=>?_) fun h=>?_
 ·
  refine K0<|Tr<|Ra Y<|Za<|?_
  obtain rfl := rt h
  exact Zi (Zq Y (.one<|rb Y))
 ·
  refine Ze<|Zj<|K2 1 3 Y<|Tr<|Rq Y (Zc (ov Y) ZbZ)<|Rq Y (Zb (ov Y) tS3 Y)<|R2 QC Y<|Za<|K3 1 3 41 Y<|If h Y (fun h=>?_) fun h=>?_
  ·
   refine Zj<|K1 1 Y<|Tr<|Rq Y (Zc (ov Y) Zb1)<|Rq Y (Zb (ov Y) Zg0 Y)<|Rl tZ_9 Zeh Y<|R2 Qj Y<|Za<|K1 45 Y<|If h Y (fun h=>?_) fun h=>?_
   ·
    refine K0<|Tr<|Ra Y<|Za<|?_
    obtain rfl := rt h
    exact Zi (Zq Y (.one<|rb Y))
   ·
    refine Ze<|K0<|Tr<|Ra Y<|Za<|?_
    obtain rfl := rt h
    exact Zi (Zq Y (.one<|rb Y))
  ·
   refine Ze<|Zj<|Zf<|K2 1 3 Y<|Tr<|Rq Y (Zc (ov Y) Zb1)<|Rq Y (Zb (ov Y) Zg0 Y)<|Rl tZ_9 Zeh Y<|R2 Z4 Y<|Ra Y<|Za<|K3 1 3 46 Y<|If h Y (fun h=>?_) fun h=>?_
   ·
    refine K0<|Tr<|Ra Y<|Za<|?_
    obtain rfl := rt h
    exact Zi (Zq Y (.one<|rb Y))
   ·
    refine K2 1 3 Y<|Td md0<|Dq 0 Y (Zc (ov Y) Zb1)<|Dq 1 Y (Zb (ov Y) Zg0 Y)<|Dq 2 Y (Zhg (Qp (ov Y) tZ_9) Zeh<|Zdp _ _)<|D2 3 Qj Y<|D1 4 Zm Y<|Dq 5 Y (.guarded ((decide (64 < (p.Names.length : Int))) == false) Y Y Y Y fun h => Zc (ov Y) Zb1)<|Dq 6 Y (.guarded ((decide (64 < (p.Names.length : Int))) == false) Y Y Y Y fun h => Zb (ow Y h) Zg0 Y)<|Dq 7 Y (.guarded ((decide (64 < (p.Names.length : Int))) == false) Y Y Y Y fun h => Zhg (Qp (ow Y h) tZ_9) Zeh<|Zdp _ _)<|Dq 8 Y (.guarded ((decide (64 < (p.Names.length : Int))) == false) Y Y Y Y fun h => Zm<|ov Y)<|bE h fun q2 h_q2 h=>Dq 9 Y (.guarded ((decide (64 < (p.Names.length : Int))) == false) Y Y Y Y fun h => ZaH (ov Y) (ow Y h)<|gdT h_q2 h)<|Dq 10 Y (.guarded ((decide (64 < (p.Names.length : Int))) == false) Y Y Y Y fun h => Qj (ow Y h)<|ow Y h)<|Dq 11 Y (QB (ov Y) fun hp=>ow Y<|gF hp)<|D1 12 Z6 Y<|Dd<|K2 1 51 Y<|If h Y (fun h=>?_) fun h=>?_
    ·
     refine K0<|Tr<|Ra Y<|Za<|?_
     obtain rfl := rt h
     exact Zi (Zq Y (.one<|rb Y))
    ·
     refine Ze<|J0 (fun j => (.inr j)) ⟨[], []⟩ h (fun h=>?_) fun h=>?_
     ·
      refine K1 1 Y<|Tr<|Rq Y (Zc (ov Y) Zb1)<|Rq Y (Zb (ov Y) Zg0 Y)<|Rl tZ_9 Zeh Y<|Rm Y<|Za<|Zf<|?_
      obtain ⟨r1, hl1, ho1⟩ := Z1 h
      refine L1 (fun i=>⟨[(1, .rp [.str p.Name, .int .i64 p.Kind, .sl 121 (List.map Z9 p.Parts), .int .i64 p.First, .int .i64 p.Every, .int .i64 p.Times, .int .i64 p.Step, .sl 9 (List.map R9 p.Names)] 0), (65, .sl 9 (List.map R9 p.Names)), (66, .int .i64 (p.Names.length : Int)), (67, .int .i64 i)], []⟩) hl1 (ES []) fun n1 i h=>?_
      unfold Xj at h
      refine Tr<|R2 Zw Y<|Za<|Zj<|If h Y (fun h=>?_) fun h=>?_
      ·
       refine Ze<|Zj<|Zf<|K4 1 65 66 67 Y<|Tr<|Rm Y<|bE h fun x h_x h=>Rq Y (Zx (ov Y) (ov Y) Zeh h_x)<|Rq Y (Zb (ov Y) tS9 Y)<|Ra Y<|Ra Y<|Za<|Zj<|K6 1 4 5 65 66 67 Y<|Tr<|Rm Y<|bE h fun y2 h_y2 h=>Rq Y (Zl (Zeg h_y2)<|.cons (ov Y) (.b Y) .nil)<|R1 Z0 Y<|Za<|K7 1 4 5 65 66 67 74 Y<|If h Y (fun h=>?_) fun h=>?_
       ·
        refine K0<|Tr<|Ra Y<|Za<|?_
        replace h := lx h ▸ ho1
        obtain rfl := rt h
        exact Zi (Zq Y (.one<|rb Y))
       ·
        refine Ze<|K6 1 4 5 65 66 67 Y<|Tr<|Rq Y (Zc (ov Y) Zb1)<|Rq Y (Zb (ov Y) Zg0 Y)<|Rm Y<|bE h fun l h_l h=>Rq Y (ZbC (ov Y) Zeh on (oi<|ov Y) h_l)<|Rm Y<|bE h fun y3 h_y3 h=>Rq Y (Zl (Zb2 h_y3)<|.cons (ov Y) (.b Y)<|.cons (ov Y) (.b Y) .nil)<|Za<|K5 1 65 66 67 80 Y<|If h Y (fun h=>?_) fun h=>?_
        ·
         refine K0<|Tr<|Ra Y<|Za<|?_
         replace h := lx h ▸ ho1
         obtain rfl := rt h
         exact Zi (Zq Y (.one<|rb Y))
        ·
         exact Ze<|K4 1 65 66 67 Y<|Zs<|R2 ZB Y<|Rm Y<|Za<|⟨_, h, ES []⟩
      ·
       refine Zu<|?_
       replace h := lx h ▸ ho1
       exact ⟨_, h, ES []⟩
     ·
      replace h := elr h
      replace h := t0i h
      refine Tr<|Ra Y<|Za<|?_
      obtain rfl := rt h
      exact Zi (Zq Y (.one<|rb Y))
theorem Za8 {s : List api_Part} {f : api_Part → Option Bool} {r : Int} {f_f : FuncId} {f_c : List AV} (f_d : f_c.all datB = true) (f_h : ∀ (z0 : api_Part) z, f z0 = some z → CSpec Tryz.prog gl0 f_f ([.agg [.int .i64 z0.Frame, .int .i64 z0.Word, .int .i64 z0.Low, .int .i64 z0.Bits]] ++ f_c) (.bool z)) (h : Qn s f = some r) :
 CSpec Tryz.prog gl0 110 [.sl 121 (List.map Z9 s), .fn f_f f_c] (.int .i64 r) := by
 unfold Qn at h
 replace h := ZE h
 refine So Tryz.func110 Y fun w0 A=>Tr<|Ra Y<|Za<|J0 (fun j => (.inr j)) ⟨[], []⟩ h (fun h=>?_) fun h=>?_
 ·
  refine K2 0 1 Y<|Tr<|Rm Y<|Rl tZ_121 Zdh Y<|Rm Y<|Za<|Zf<|?_
  obtain ⟨r1, hl1, ho1⟩ := Z1 h
  refine L1 (fun i=>⟨[(0, .sl 121 (List.map Z9 s)), (1, .fn f_f f_c), (7, .int .i64 (s.length : Int)), (8, .int .i64 i)], []⟩) hl1 (ES []<|sd 0 Y Y<|sr 1 Y (rFn<|rld f_d)<|sd 7 Y Y<|sd 8 Y Y sn) fun n1 i h=>?_
  unfold ZW at h
  refine Tr<|R2 Zw Y<|Za<|Zj<|If h Y (fun h=>?_) fun h=>?_
  ·
   refine Ze<|Zj<|Zf<|K4 0 1 7 8 Y<|Tr<|Rm Y<|Ra Y<|Za<|K5 0 1 5 7 8 Y<|Tr<|Rm Y<|Rm Y<|Rm Y<|bE h fun x h_x h=>Rq Y (Zx (ov Y) (ov Y) Zdh h_x)<|Rq Y (Zh (ov Y) ZbN Y Y)<|bE h fun y h_y h=>Rq Y (JZ (ov Y) f_d (f_h _ _ h_y)<|.cons (ov Y) (.aggB Y) .nil)<|Za<|K6 0 1 5 7 8 16 Y<|If h Y (fun h=>?_) fun h=>?_
   ·
    refine K1 5 Y<|Tr<|Rm Y<|Ra Y<|Za<|?_
    replace h := lx h ▸ ho1
    obtain rfl := rt h
    exact Zi (Zq Y (.one<|rb Y))
   ·
    exact Ze<|K4 0 1 7 8 Y<|Zs<|R2 ZB Y<|Rm Y<|Za<|⟨_, h, ES []<|sd 0 Y Y<|sr 1 Y (rFn<|rld f_d)<|sd 7 Y Y<|sd 8 Y Y sn⟩
  ·
   refine Zu<|?_
   replace h := lx h ▸ ho1
   exact ⟨_, h, ES []⟩
 ·
  replace h := elr h
  replace h := t0i h
  refine Tr<|Ra Y<|Za<|?_
  obtain rfl := rt h
  exact Zi (Zq Y (.one<|rb Y))
theorem Zaw {s : List api_Part} {f : api_Part → Option Bool} {r : Bool} {f_f : FuncId} {f_c : List AV} (f_d : f_c.all datB = true) (f_h : ∀ (z0 : api_Part) z, f z0 = some z → CSpec Tryz.prog gl0 f_f ([.agg [.int .i64 z0.Frame, .int .i64 z0.Word, .int .i64 z0.Low, .int .i64 z0.Bits]] ++ f_c) (.bool z)) (h : ZX s f = some r) :
 CSpec Tryz.prog gl0 86 [.sl 121 (List.map Z9 s), .fn f_f f_c] (.bool r) := by
 unfold ZX at h
 replace h := ZE h
 refine So Tryz.func86 Y fun w0 A=>Tr<|Ra Y<|Za<|Tr<|Rm Y<|Rm Y<|bE h fun y h_y h=>Rq Y (Zl (Za8 f_d f_h h_y)<|.cons (ov Y) (.b Y)<|.cons (ov Y) (Dat.fnC<|.refl fun x hx => .b<|List.all_eq_true.1 f_d x hx) .nil)<|R2 JP Y<|Ra Y<|Za<|?_
 obtain rfl := rt h
 exact Zi (Zq Y (.one<|rb Y))
theorem ZgB {x : api_Part} {c0 : Int} {r : Bool} (h : Je x c0 = some r) :
 CSpec Tryz.prog gl0 87 [.agg [.int .i64 x.Frame, .int .i64 x.Word, .int .i64 x.Low, .int .i64 x.Bits], .rp [.int .i64 c0] 0] (.bool r) := by
 unfold Je at h
 replace h := ZE h
 refine So Tryz.func87 Y fun w0 A=>Tr<|Rq Y (Zv (cva<|ov Y) Y tZ_121 Y)<|Ra Y<|Za<|K3 1 2 3 Y<|Tr<|Rq Y (Zb (ov Y) tS3 Y)<|Rq Y (Zc (ov Y) Zf5)<|Rq Y (Zb (ov Y) tS3 Y)<|R2 ZB Y<|R2 JP Y<|Ra Y<|Za<|?_
 obtain rfl := rt h
 exact Zi (Zq Y (.one<|rb Y))
theorem Zef {p : api_Param} {r : (List Int)} (h : Zav p = some r) :
 CSpec Tryz.prog gl0 59 [.agg [.str p.Name, .int .i64 p.Kind, .sl 121 (List.map Z9 p.Parts), .int .i64 p.First, .int .i64 p.Every, .int .i64 p.Times, .int .i64 p.Step, .sl 9 (List.map R9 p.Names)]] (.sl 3 (List.map R3 r)) := by
 unfold Zav at h
 replace h := ZE h
 refine So Tryz.func59 Y fun w0 A=>Tr<|Rq Y (Zv (cva<|ov Y) Y tZ_45 Y)<|Ra Y<|Za<|K1 1 Y<|Tr<|Ra Y<|Za<|I1 (fun out=>⟨[(3, .own 0 out.length)], [some ⟨3, List.map R3 out⟩]⟩) h (fun h=>?_) fun out h=>?_
 ·
  refine Tr<|Rq Y (Zc (ov Y) Zkx)<|Rq Y (Zb (ov Y) tS3 Y)<|Rx Y (Zt (row := [_]) 0 Y tZ3 Y tZ_3)<|Rx Y (Zo (ov Y) (ov Y) (ZO tS3) Y Y Y (Nat.le_of_ble_eq_true Y) (Zd Y) Y)<|Za<|Zf<|?_
  obtain ⟨r1, hl1, ho1⟩ := Z1 h
  refine L2 (fun out2 f=>⟨[(1, .rp [.str p.Name, .int .i64 p.Kind, .sl 121 (List.map Z9 p.Parts), .int .i64 p.First, .int .i64 p.Every, .int .i64 p.Times, .int .i64 p.Step, .sl 9 (List.map R9 p.Names)] 0), (3, .own 0 out2.length), (4, .ptr 1 1 0 0)], [some ⟨3, List.map R3 out2⟩, some ⟨3, [[.int .i64 f]]⟩]⟩) hl1 (ES [none, some 0]) fun n1 out2 f h=>?_
  unfold QP at h
  refine Zj<|Tr<|Rq Y (Zn (ov Y) Y Y Y tS3 Y)<|R2 Zw Y<|Za<|K4 1 3 4 8 Y<|If h Y (fun h=>?_) fun h=>?_
  ·
   refine Ze<|I1 (fun out3=>⟨[(1, .rp [.str p.Name, .int .i64 p.Kind, .sl 121 (List.map Z9 p.Parts), .int .i64 p.First, .int .i64 p.Every, .int .i64 p.Times, .int .i64 p.Step, .sl 9 (List.map R9 p.Names)] 0), (3, .own 0 out3.length), (4, .rp [.int .i64 f] 0)], [some ⟨3, List.map R3 out3⟩]⟩) h (fun h=>?_) fun out3 h=>?_
   ·
    refine Zf<|K3 1 3 4 Y<|Tr<|Rq Y (Zc (ov Y) Zce)<|Rq Y (Zb (ov Y) Zhr Y)<|ZgW (Ent.sel [some 0, none] (sd 1 Y Y<|sr 3 Y (.own (r' := 0) _ Y)<|sr 4 Y (.frp ⟨Y, ⟨_, Y⟩, Y, Y⟩)<|sd 13 Y Y<|sd 14 Y Y sn) (.cons Y (roM D3)<|.row 3 .nil) Y Y)<|Rq Y (Qz<|.cons (ov Y) .nil)<|bE h fun y h_y h=>Rq Y (Zl (Zaw Y (fun z0 _ hz=>ZgB hz) h_y)<|.cons (ov Y) (.b Y)<|.cons (ov Y) (.fnC<|.cons (.b Y) .nil) .nil)<|R1 Z0 Y<|Za<|K4 1 3 4 17 Y<|If h Y (fun h=>?_) fun h=>?_
    ·
     exact K3 1 3 4 Y<|Zs<|Rm Y<|Rq Y (Zb (ov Y) tS3 Y)<|R_q (.sl 3<|List.map R3 ([f] : List Int)) Y (JO Zea (.cons (cvs (ov Y)<|Zp Y) Y (.cons (.b Y) .nil) .nil) Y Y)<|bE h fun l h_l h=>Rx Y (Qf (ov Y) (Qp (ov Y) tZ_3) Zea Y Y Y (fun _=>Zd Y) Y h_l)<|Ra Y<|Za<|⟨_, h, ES [some 0]⟩
    ·
     exact Ze<|⟨_, h, ES [some 0]⟩
   ·
    exact Zj<|Tr<|Rq Y (Zb (ov Y) tS3 Y)<|Za<|Zs<|Rx Y (Zt (row := [_]) 1 Y tZ3 Y tZ_3)<|Rx Y (Zo (ov Y) (ov Y) (ZO tS3) Y Y Y (Nat.le_of_ble_eq_true Y) (Zd Y) Y)<|Za<|K3 1 3 4 Y<|Zs<|Rq Y (Zn (ov Y) Y Y Y tS3 Y)<|Rq Y (Zc (ov Y) ZhI)<|Rq Y (Zb (ov Y) tS3 Y)<|R2 ZB Y<|Rx Y (Zo (ov Y) (ov Y) (ZO tS3) Y Y Y (Nat.le_of_ble_eq_true Y) (Zd Y) Y)<|Za<|⟨_, h, ES [some 0, some 1]⟩
  ·
   refine Zu<|?_
   replace h := lx h ▸ ho1
   exact ⟨_, h, ES [some 0]⟩
 ·
  refine Tr<|Rm Y<|Ra Y<|Za<|?_
  obtain rfl := rt h
  exact Zi (Zq Y (.one<|.tmp Y<|View.ownM Y Y D3))
theorem Zhh {p : api_Param} {x : api_Part} {f : Int} {j : Int} {r : api_Place} (h : ZaT p x f j = some r) :
 CSpec Tryz.prog gl0 88 [.agg [.str p.Name, .int .i64 p.Kind, .sl 121 (List.map Z9 p.Parts), .int .i64 p.First, .int .i64 p.Every, .int .i64 p.Times, .int .i64 p.Step, .sl 9 (List.map R9 p.Names)], .agg [.int .i64 x.Frame, .int .i64 x.Word, .int .i64 x.Low, .int .i64 x.Bits], .int .i64 f, .int .i64 j] (.agg [.int .i64 r.Frame, .int .i64 r.Word, .int .i64 r.Low, .int .i64 r.Bits]) := by
 unfold ZaT at h
 replace h := ZE h
 refine So Tryz.func88 Y fun w0 A=>Tr<|Rq Y (Zv (cva<|ov Y) Y tZ_45 Y)<|Rq Y (Zv (cva<|ov Y) Y tZ_121 Y)<|Rx Y (Zt (row := [_, _, _, _]) 0 Y Zi5 Y tZ_115)<|Za<|K5 2 3 4 5 8 Y<|Tr<|Rm Y<|Rq Y (Zc (ov Y) Zf5)<|Rq Y (Zb (ov Y) tS3 Y)<|R2 ZB Y<|Rq Y (Zc (ov Y) ZfQ)<|Rq Y (Zb (ov Y) tS3 Y)<|Rm Y<|Rq Y (Zc (ov Y) Zd7)<|Rq Y (Zb (ov Y) tS3 Y)<|R2 Zck Y<|R2 ZB Y<|Rq Y (Zc (ov Y) ZfR)<|Rq Y (Zb (ov Y) tS3 Y)<|Rq Y (Zc (ov Y) Zf2)<|Rq Y (Zb (ov Y) tS3 Y)<|Rq Y (ZA (ys := [_, _, _, _]) Zo9 Zoi Zi5 (.cons (cvs (ov Y)<|Zp Y)<|.cons (cvs (ov Y)<|Zp Y)<|.cons (cvs (ov Y)<|Zp Y)<|.cons (cvs (ov Y)<|Zp Y) .nil) Y)<|Rx Y (Zo (ov Y) (ov Y) (Zk ZfC Y) Y Y Y (Nat.le_of_ble_eq_true Y) (Zd Y) Y)<|Za<|?_
 obtain rfl := rt h
 exact Zi (Zq Y (.one<|.agg Y Y Y Y ZfC Y Y<|pwB Y))
theorem Zb7 {number : Int} {p : api_Param} {r : (List api_Cell)} (h : Xm number p = some r) :
 CSpec Tryz.prog gl0 60 [.int .i64 number, .agg [.str p.Name, .int .i64 p.Kind, .sl 121 (List.map Z9 p.Parts), .int .i64 p.First, .int .i64 p.Every, .int .i64 p.Times, .int .i64 p.Step, .sl 9 (List.map R9 p.Names)]] (.sl 85 (List.map R85 r)) := by
 unfold Xm at h
 replace h := ZE h
 refine So Tryz.func60 Y fun w0 A=>Tr<|Rq Y (Zv (cva<|ov Y) Y tZ_45 Y)<|Ra Y<|Za<|K2 0 3 Y<|Tr<|Ra Y<|Za<|I1 (fun out=>⟨[(5, .own 0 out.length)], [some ⟨85, List.map R85 out⟩]⟩) h (fun h=>?_) fun out h=>?_
 ·
  refine Tr<|Rq Y (Zh (ov Y) Q7 Y Y)<|bE h fun y h_y h=>Rq Y (Zl (Zef h_y)<|.cons (ov Y) (.aggB Y) .nil)<|Rl tZ_3 Zea Y<|Rm Y<|Za<|Zf<|?_
  obtain ⟨r1, hl1, ho1⟩ := Z1 h
  refine L2 (fun out2 i=>⟨[(0, .int .i64 number), (3, .rp [.str p.Name, .int .i64 p.Kind, .sl 121 (List.map Z9 p.Parts), .int .i64 p.First, .int .i64 p.Every, .int .i64 p.Times, .int .i64 p.Step, .sl 9 (List.map R9 p.Names)] 0), (5, .own 0 out2.length), (13, .sl 3 (List.map R3 y)), (14, .int .i64 (y.length : Int)), (15, .int .i64 i)], [some ⟨85, List.map R85 out2⟩]⟩) hl1 (ES [none]) fun n1 out2 i h=>?_
  unfold Xo at h
  refine Tr<|R2 Zw Y<|Za<|Zj<|If h Y (fun h=>?_) fun h=>?_
  ·
   refine Ze<|I1 (fun out3=>⟨[(0, .int .i64 number), (3, .rp [.str p.Name, .int .i64 p.Kind, .sl 121 (List.map Z9 p.Parts), .int .i64 p.First, .int .i64 p.Every, .int .i64 p.Times, .int .i64 p.Step, .sl 9 (List.map R9 p.Names)] 0), (5, .own 0 out3.length), (13, .sl 3 (List.map R3 y)), (14, .int .i64 (y.length : Int)), (15, .int .i64 i)], [some ⟨85, List.map R85 out3⟩]⟩) h (fun h=>?_) fun out3 h=>?_
   ·
    refine Zf<|K6 0 3 5 13 14 15 Y<|Tr<|bE h fun x h_x h=>Rq Y (Zx (ov Y) (ov Y) Zea h_x)<|Rq Y (Zb (ov Y) tS3 Y)<|Ra Y<|Za<|K7 0 3 5 7 13 14 15 Y<|Tr<|Rq Y (Zc (ov Y) ZcE)<|Rq Y (Zb (ov Y) tS3 Y)<|Rm Y<|Za<|Zf<|?_
    obtain ⟨r2, hl2, ho2⟩ := Z1 h
    refine L2 (fun out4 i2=>⟨[(0, .int .i64 number), (3, .rp [.str p.Name, .int .i64 p.Kind, .sl 121 (List.map Z9 p.Parts), .int .i64 p.First, .int .i64 p.Every, .int .i64 p.Times, .int .i64 p.Step, .sl 9 (List.map R9 p.Names)] 0), (5, .own 0 out4.length), (7, .int .i64 x), (13, .sl 3 (List.map R3 y)), (14, .int .i64 (y.length : Int)), (15, .int .i64 i), (20, .int .i64 p.Times), (21, .int .i64 i2)], [some ⟨85, List.map R85 out4⟩]⟩) hl2 (ES [some 0]) fun n2 out4 i2 h=>?_
    unfold Zcj at h
    refine Tr<|R2 Zw Y<|Za<|Zj<|If h Y (fun h=>?_) fun h=>?_
    ·
     refine Ze<|Zj<|Zf<|K9 0 3 5 7 13 14 15 20 21 Y<|Tr<|Rm Y<|Ra Y<|Za<|K10 0 3 5 7 8 13 14 15 20 21 Y<|Tr<|Rm Y<|Rm Y<|Rq Y (Zc9 (ov Y) Y Y Zbq)<|Rm Y<|Rq Y (ZA (ys := [_, _, _, _]) Zqw Zqo ZkN (.cons (cvs (ov Y)<|Zp Y)<|.cons (cvs (ov Y)<|Zp Y)<|.cons (cvs (ov Y)<|Zp Y) .nil) Y)<|Rx Y (Zt (row := [_, _, _, _]) 1 Y ZkN Y tZ_85)<|Rx Y (Zo (ov Y) (ov Y) (Zk Ze6 Y) Y Y Y (Nat.le_of_ble_eq_true Y) (Zd Y) Y)<|Za<|I1 (fun Places=>⟨[(0, .int .i64 number), (3, .rp [.str p.Name, .int .i64 p.Kind, .sl 121 (List.map Z9 p.Parts), .int .i64 p.First, .int .i64 p.Every, .int .i64 p.Times, .int .i64 p.Step, .sl 9 (List.map R9 p.Names)] 0), (5, .own 0 out4.length), (7, .int .i64 x), (9, .ptr 1 1 0 0), (13, .sl 3 (List.map R3 y)), (14, .int .i64 (y.length : Int)), (15, .int .i64 i), (20, .int .i64 p.Times), (21, .int .i64 i2)], [some ⟨85, List.map R85 out4⟩, some ⟨85, [[.int .i64 number, .int .i64 (out4.length : Int), .int .i64 x, .own 2 Places.length]]⟩, some ⟨115, List.map R115 Places⟩]⟩) h (fun h=>?_) fun Places h=>?_
     ·
      refine K11 0 3 5 7 8 9 13 14 15 20 21 Y<|Tr<|Rq Y (Zc (ov Y) Zce)<|Rq Y (Zb (ov Y) Zhr Y)<|Rl tZ_121 Zdh Y<|Rm Y<|Za<|Zf<|?_
      obtain ⟨r3, hl3, ho3⟩ := Z1 h
      refine L2 (fun Places2 i3=>⟨[(0, .int .i64 number), (3, .rp [.str p.Name, .int .i64 p.Kind, .sl 121 (List.map Z9 p.Parts), .int .i64 p.First, .int .i64 p.Every, .int .i64 p.Times, .int .i64 p.Step, .sl 9 (List.map R9 p.Names)] 0), (5, .own 0 out4.length), (7, .int .i64 x), (8, .int .i64 i2), (9, .ptr 1 1 0 0), (13, .sl 3 (List.map R3 y)), (14, .int .i64 (y.length : Int)), (15, .int .i64 i), (20, .int .i64 p.Times), (21, .int .i64 i2), (30, .sl 121 (List.map Z9 p.Parts)), (31, .int .i64 (p.Parts.length : Int)), (32, .int .i64 i3)], [some ⟨85, List.map R85 out4⟩, some ⟨85, [[.int .i64 number, .int .i64 (out4.length : Int), .int .i64 x, .own 2 Places2.length]]⟩, some ⟨115, List.map R115 Places2⟩]⟩) hl3 (ES [some 0, some 1, none]) fun n3 Places2 i3 h=>?_
      unfold QH at h
      refine Tr<|R2 Zw Y<|Za<|Zj<|If h Y (fun h=>?_) fun h=>?_
      ·
       exact Ze<|Zj<|Zf<|JT (kc 0 Y<|kc 3 Y<|kc 5 Y<|kc 7 Y<|kc 8 Y<|kc 9 Y<|kc 13 Y<|kc 14 Y<|kc 15 Y<|kc 20 Y<|kc 21 Y<|kc 30 Y<|kc 31 Y<|kc 32 Y kn) Y<|Tr<|bE h fun x2 h_x2 h=>Rq Y (Zx (ov Y) (ov Y) Zdh h_x2)<|Rq Y (Zh (ov Y) ZbN Y Y)<|Rx Y (Zt (row := [_, _, _, _]) 3 Y Zhj Y tZ_121)<|Rx Y (Zo (ov Y) (ov Y) (Zk ZbN Y) Y Y Y (Nat.le_of_ble_eq_true Y) (Zd Y) Y)<|Za<|JT (kc 0 Y<|kc 3 Y<|kc 5 Y<|kc 7 Y<|kc 8 Y<|kc 9 Y<|kc 11 Y<|kc 13 Y<|kc 14 Y<|kc 15 Y<|kc 20 Y<|kc 21 Y<|kc 30 Y<|kc 31 Y<|kc 32 Y kn) Y<|ZgH (cw := md0) (by kernel_rfl)<|Dq 0 Y (Zg (ov Y) Y Y Zcr)<|Dq 1 Y (Zn (ov Y) Y Y Y Zhy Y)<|Dq 2 Y (Zh (ov Y) Q7 Y Y)<|Dq 3 Y (ZL (ov Y) Y Y Y ZbN Y Y)<|D1 4 Zm Y<|D1 5 Zm Y<|bE h fun y2 h_y2 h=>Dq 6 Y (Zl (Zhh h_y2)<|.cons (ov Y) (.aggB Y)<|.cons (ov Y) (.aggB Y)<|.cons (ov Y) (.b Y)<|.cons (ov Y) (.b Y) .nil)<|Zmy 7 (.sl 115<|List.map R115 ([y2] : List api_Place)) Y (by kernel_rfl) Y Y (JO ZgN (.cons (cva<|ov Y) Y (pwD Y) .nil) Y Y)<|bE h fun l h_l h=>Do 8 Y (Qf (ov Y) (Qp (ov Y) tZ_115) ZgN Y Y Y (fun _=>Zd Y) Y h_l)<|Dq 9 Y (Zg (ov Y) Y Y Zcr)<|Do 10 Y (Zo (ov Y) (ov Y) (ZO Zhy) Y Y Y (Nat.le_of_ble_eq_true Y) (Zd Y) Y)<|Dd<|JT (kc 0 Y<|kc 3 Y<|kc 5 Y<|kc 7 Y<|kc 8 Y<|kc 9 Y<|kc 13 Y<|kc 14 Y<|kc 15 Y<|kc 20 Y<|kc 21 Y<|kc 30 Y<|kc 31 Y<|kc 32 Y kn) Y<|Zs<|R2 ZB Y<|Rm Y<|Za<|⟨_, h, ES [some 0, some 1, some 2]⟩
      ·
       refine Zu<|?_
       replace h := lx h ▸ ho3
       exact ⟨_, h, ES [some 0, some 1, some 2]⟩
     ·
      exact Zs<|Rm Y<|Rq Y (ZL (ov Y) Y Y Y Ze6 Y Y)<|ZgW (Ent.sel [some 0, some 1, none] (sd 0 Y Y<|sd 3 Y Y<|sr 5 Y (.own (r' := 0) _ Y)<|sd 7 Y Y<|sr 9 Y (.ptr (r' := 1) _ _ _ Y)<|sd 13 Y Y<|sd 14 Y Y<|sd 15 Y Y<|sd 20 Y Y<|sd 21 Y Y<|sr 47 Y (.own (r' := 0) _ Y)<|sr 48 Y (XH<|rlc (.dat Y)<|rlc (.dat Y)<|rlc (.dat Y)<|rlc (ZpT Y Y Y D115) rln) sn) (.cons Y (roM D85)<|.cons Y (ro1 (by exact tZ_85.symm)<|rlc (.dat Y)<|rlc (.dat Y)<|rlc (.dat Y)<|rlc (ZpT Y Y Y D115) rln)<|.row 115 .nil) Y Y)<|R_q (.sl 85<|List.map R85 ([(api_Cell.mk number (out4.length : Int) x Places)] : List api_Cell)) Y (JO Zbq (.cons (cva<|ov Y) Y (pwD Y) .nil) Y Y)<|bE h fun l2 h_l2 h=>Rx Y (Qf (ov Y) (Qp (ov Y) tZ_85) Zbq Y Y Y (fun _=>Zd Y) Y h_l2)<|Ra Y<|Za<|K9 0 3 5 7 13 14 15 20 21 Y<|Zs<|R2 ZB Y<|Rm Y<|Za<|⟨_, h, ES [some 0]⟩
    ·
     refine Zu<|?_
     replace h := lx h ▸ ho2
     exact ⟨_, h, ES [some 0]⟩
   ·
    exact Zs<|R2 ZB Y<|Rm Y<|Za<|⟨_, h, ES [some 0]⟩
  ·
   refine Zu<|?_
   replace h := lx h ▸ ho1
   exact ⟨_, h, ES [some 0]⟩
 ·
  refine Tr<|Rm Y<|Ra Y<|Za<|?_
  obtain rfl := rt h
  exact Zi (Zq Y (.one<|.tmp Y<|View.ownM Y Y D85))
theorem Zhx {x : api_Place} {r : (List layout_bit)} (h : ZbA x = some r) :
 CSpec Tryz.prog gl0 89 [.agg [.int .i64 x.Frame, .int .i64 x.Word, .int .i64 x.Low, .int .i64 x.Bits]] (.sl 141 (List.map R141 r)) := by
 unfold ZbA at h
 replace h := ZE h
 refine So Tryz.func89 Y fun w0 A=>Tr<|Rq Y (Zv (cva<|ov Y) Y tZ_115 Y)<|Ra Y<|Za<|K1 1 Y<|Tr<|Ra Y<|Za<|I1 (fun out=>⟨[(3, .own 0 out.length)], [some ⟨141, List.map R141 out⟩]⟩) h (fun h=>?_) fun out h=>?_
 ·
  refine Tr<|Rq Y (Zc (ov Y) Zf3)<|Rq Y (Zb (ov Y) tS3 Y)<|Rm Y<|Za<|Zf<|?_
  obtain ⟨r1, hl1, ho1⟩ := Z1 h
  refine L2 (fun out2 i=>⟨[(1, .rp [.int .i64 x.Frame, .int .i64 x.Word, .int .i64 x.Low, .int .i64 x.Bits] 0), (3, .own 0 out2.length), (6, .int .i64 x.Bits), (7, .int .i64 i)], [some ⟨141, List.map R141 out2⟩]⟩) hl1 (ES [none]) fun n1 out2 i h=>?_
  unfold JC at h
  refine Tr<|R2 Zw Y<|Za<|Zj<|If h Y (fun h=>?_) fun h=>?_
  ·
   exact Ze<|Zj<|Zf<|K4 1 3 6 7 Y<|Tr<|Rm Y<|Ra Y<|Za<|K5 1 3 4 6 7 Y<|Zs<|Rm Y<|Rq Y (Zc (ov Y) Zhm)<|Rq Y (Zb (ov Y) tS3 Y)<|Rq Y (Zc (ov Y) Zf0)<|Rq Y (Zb (ov Y) tS3 Y)<|Rq Y (Zc (ov Y) Zg7)<|Rq Y (Zb (ov Y) tS3 Y)<|Rm Y<|R2 ZB Y<|Rq Y (ZA (ys := [_, _, _]) Zre Zrb Zqh (.cons (cvs (ov Y)<|Zp Y)<|.cons (cvs (ov Y)<|Zp Y)<|.cons (cvs (ov Y)<|Zp Y) .nil) Y)<|R_q (.sl 141<|List.map R141 ([(layout_bit.mk x.Frame x.Word (i64 (x.Low + i)))] : List layout_bit)) Y (JO ZmZ (.cons (cva<|ov Y) Y (pwD Y) .nil) Y Y)<|bE h fun l h_l h=>Rx Y (Qf (ov Y) (Qp (ov Y) tZ_141) ZmZ Y Y Y (fun _=>Zd Y) Y h_l)<|Ra Y<|Za<|K4 1 3 6 7 Y<|Zs<|R2 ZB Y<|Rm Y<|Za<|⟨_, h, ES [some 0]⟩
  ·
   refine Zu<|?_
   replace h := lx h ▸ ho1
   exact ⟨_, h, ES [some 0]⟩
 ·
  refine Tr<|Rm Y<|Ra Y<|Za<|?_
  obtain rfl := rt h
  exact Zi (Zq Y (.one<|.tmp Y<|View.ownM Y Y D141))
theorem Zfm {taken : List (layout_bit × Int)} {owner : Int} {l : List api_Place} {r : Bool × (List (layout_bit × Int))} (h : ZbU taken owner l = some r) :
 GSpec Tryz.prog gl0 61 [.mref 0 1, .int .i64 owner, .sl 115 (List.map R115 l)] [some ⟨108, [[.mcon (List.map (Q3 XO FV3) taken)]]⟩] (.bool r.1) [some ⟨108, [[.mcon (List.map (Q3 XO FV3) r.2)]]⟩] := by
 unfold ZbU at h
 replace h := ZE h
 refine Jp (by kernel_rfl) Tryz.func61 Y Y<|?_
 intro w0 A W φ0
 refine Tr<|Ra Y<|Za<|J1 (fun j => (.inr j)) (fun o=>⟨[], [some ⟨108, [[.mcon (List.map (Q3 XO FV3) o)]]⟩]⟩) h (fun h=>?_) fun o h=>?_
 ·
  refine K3 0 1 2 Y<|Tr<|Rm Y<|Rl tZ_115 ZgN Y<|Rm Y<|Za<|Zf<|?_
  obtain ⟨r1, hl1, ho1⟩ := Z1 h
  refine L2 (fun o2 i=>⟨[(0, .mref 0 1), (1, .int .i64 owner), (13, .sl 115 (List.map R115 l)), (14, .int .i64 (l.length : Int)), (15, .int .i64 i)], [some ⟨108, [[.mcon (List.map (Q3 XO FV3) o2)]]⟩]⟩) hl1 (ES [some 0] (hhp := .cons Y (QT (fk := XO) (fv := FV3) (m := taken) tZ_108 (fun _=>XH<|rld Y) fun _=>.ren<|.dat Y) .nil)) fun n1 o2 i h=>?_
  unfold XU at h
  refine Tr<|R2 Zw Y<|Za<|Zj<|If h Y (fun h=>?_) fun h=>?_
  ·
   refine Ze<|J1 (fun j => (.inr j)) (fun o3=>⟨[(0, .mref 0 1), (1, .int .i64 owner), (13, .sl 115 (List.map R115 l)), (14, .int .i64 (l.length : Int)), (15, .int .i64 i)], [some ⟨108, [[.mcon (List.map (Q3 XO FV3) o3)]]⟩]⟩) h (fun h=>?_) fun o3 h=>?_
   ·
    refine Zf<|K5 0 1 13 14 15 Y<|Tr<|bE h fun x h_x h=>Rq Y (Zx (ov Y) (ov Y) ZgN h_x)<|Rq Y (Zh (ov Y) ZfC Y Y)<|Rx Y (Zt (row := [_, _, _, _]) 1 Y Zi5 Y tZ_115)<|Rx Y (Zo (ov Y) (ov Y) (Zk ZfC Y) Y Y Y (Nat.le_of_ble_eq_true Y) (Zd Y) Y)<|Za<|K6 0 1 8 13 14 15 Y<|Tr<|Rq Y (ZL (ov Y) Y Y Y ZfC Y Y)<|bE h fun y h_y h=>Rq Y (Zl (Zhx h_y)<|.cons (ov Y) (.aggB Y) .nil)<|Rl tZ_141 ZmZ Y<|Rm Y<|Za<|Zf<|?_
    obtain ⟨r2, hl2, ho2⟩ := Z1 h
    refine L2 (fun o4 i2=>⟨[(0, .mref 0 1), (1, .int .i64 owner), (13, .sl 115 (List.map R115 l)), (14, .int .i64 (l.length : Int)), (15, .int .i64 i), (20, .sl 141 (List.map R141 y)), (21, .int .i64 (y.length : Int)), (22, .int .i64 i2)], [some ⟨108, [[.mcon (List.map (Q3 XO FV3) o4)]]⟩]⟩) hl2 (ES [some 0] (hhp := .cons Y (QT (fk := XO) (fv := FV3) (m := o2) tZ_108 (fun _=>XH<|rld Y) fun _=>.ren<|.dat Y) .nil)) fun n2 o4 i2 h=>?_
    unfold XY at h
    refine Tr<|R2 Zw Y<|Za<|Zj<|If h Y (fun h=>?_) fun h=>?_
    ·
     refine Ze<|Zj<|Zf<|K8 0 1 13 14 15 20 21 22 Y<|Tr<|bE h fun x2 h_x2 h=>Rq Y (Zx (ov Y) (ov Y) ZmZ h_x2)<|Rq Y (Zh (ov Y) ZmK Y Y)<|Rx Y (Zt (row := [_, _, _]) 1 Y Zqh Y tZ_141)<|Rx Y (Zo (ov Y) (ov Y) (Zk ZmK Y) Y Y Y (Nat.le_of_ble_eq_true Y) (Zd Y) Y)<|Za<|Zj<|K9 0 1 10 13 14 15 20 21 22 Y<|Tr<|Rm Y<|Rq Y (ZL (ov Y) Y Y Y ZmK Y Y)<|bE h fun o5 h_o5 h=>Rq Y (ZrY (m := o4) (fk := XO) (fv := FV3) (k := x2) (z0 := 0) (ov Y) (ov Y) Zkl ZoG Y (fun _=>.aggB Y) (QZ Zkt Y) (fun _ _=>Y) h_o5)<|Rm Y<|Rq Y (Zr (ov Y) Y)<|Rq Y (Zr (ov Y) Y)<|Ra Y<|Ra Y<|Za<|K10 0 1 10 12 13 14 15 20 21 22 Y<|Tr<|Rm Y<|Za<|K10 0 1 10 13 14 15 20 21 22 32 Y<|If h Y (fun h=>?_) fun h=>?_
     ·
      refine K0<|Tr<|Ra Y<|Za<|?_
      replace h := lx h ▸ ho2
      replace h := lx h ▸ ho1
      obtain rfl := rt h
      exact Zi<|Zig [some 0] Y (.cons (.tmp Y) .nil) (.cons Y (QT (fk := XO) (fv := FV3) (m := o4) tZ_108 (fun _=>XH<|rld Y) fun _=>.ren<|.dat Y) .nil) Y Y<|.dat Y
     ·
      exact Ze<|K9 0 1 10 13 14 15 20 21 22 Y<|Zs<|Rm Y<|Rq Y (ZL (ov Y) Y Y Y ZmK Y Y)<|Rm Y<|Rx Y (ZgU (m := o4) (fk := XO) (fv := FV3) (k := x2) (v := owner) (ov Y) (ov Y) (ov Y) Zkl ZoG Y fun _=>.aggB Y)<|Za<|K8 0 1 13 14 15 20 21 22 Y<|Zs<|R2 ZB Y<|Rm Y<|Za<|⟨_, h, ES [some 0] (hhp := .cons Y (QT (fk := XO) (fv := FV3) (m := (Zei kq_layout_bit o4 x2 owner)) tZ_108 (fun _=>XH<|rld Y) fun _=>.ren<|.dat Y) .nil)⟩
    ·
     refine Zu<|?_
     replace h := lx h ▸ ho2
     exact ⟨_, h, ES [some 0] (hhp := .cons Y (QT (fk := XO) (fv := FV3) (m := o4) tZ_108 (fun _=>XH<|rld Y) fun _=>.ren<|.dat Y) .nil)⟩
   ·
    replace h := elr h
    replace h := t1i h
    exact Zs<|R2 ZB Y<|Rm Y<|Za<|⟨_, h, ES [some 0] (hhp := .cons Y (QT (fk := XO) (fv := FV3) (m := o3) tZ_108 (fun _=>XH<|rld Y) fun _=>.ren<|.dat Y) .nil)⟩
  ·
   refine Zu<|?_
   replace h := lx h ▸ ho1
   exact ⟨_, h, ES [some 0] (hhp := .cons Y (QT (fk := XO) (fv := FV3) (m := o2) tZ_108 (fun _=>XH<|rld Y) fun _=>.ren<|.dat Y) .nil)⟩
 ·
  replace h := elr h
  replace h := t1i h
  refine Tr<|Ra Y<|Za<|?_
  obtain rfl := rt h
  exact Zi<|Zig [some 0] Y (.cons (.tmp Y) .nil) (.cons Y (QT (fk := XO) (fv := FV3) (m := o) tZ_108 (fun _=>XH<|rld Y) fun _=>.ren<|.dat Y) .nil) Y Y<|.dat Y
theorem Zfh {p : api_Param} {r : Int} (h : Jh p = some r) :
 CSpec Tryz.prog gl0 56 [.agg [.str p.Name, .int .i64 p.Kind, .sl 121 (List.map Z9 p.Parts), .int .i64 p.First, .int .i64 p.Every, .int .i64 p.Times, .int .i64 p.Step, .sl 9 (List.map R9 p.Names)]] (.int .i64 r) := by
 unfold Jh at h
 replace h := ZE h
 refine So Tryz.func56 Y fun w0 A=>Tr<|Rq Y (Zv (cva<|ov Y) Y tZ_45 Y)<|Ra Y<|Za<|Zj<|K1 1 Y<|Tr<|Rq Y (Zc (ov Y) Zfd)<|Rq Y (Zb (ov Y) tS9 Y)<|bE h fun y h_y h=>Rq Y (Zl (Zeg h_y)<|.cons (ov Y) (.b Y) .nil)<|R1 Z0 Y<|Za<|K2 1 12 Y<|If h Y (fun h=>?_) fun h=>?_
 ·
  refine K0<|Tr<|Ra Y<|Za<|?_
  obtain rfl := rt h
  exact Zi (Zq Y (.one<|rb Y))
 ·
  refine Ze<|Zj<|K1 1 Y<|Tr<|Rq Y (Zc (ov Y) ZbZ)<|Rq Y (Zb (ov Y) tS3 Y)<|bE h fun y2 h_y2 h=>Rq Y (Zl (QS h_y2)<|.cons (ov Y) (.b Y)<|.cons (ov Y) (.b Y)<|.cons (ov Y) (.b Y) .nil)<|R1 Z0 Y<|Za<|K2 1 16 Y<|If h Y (fun h=>?_) fun h=>?_
  ·
   refine K0<|Tr<|Ra Y<|Za<|?_
   obtain rfl := rt h
   exact Zi (Zq Y (.one<|rb Y))
  ·
   refine Ze<|Zj<|K1 1 Y<|Tr<|Rq Y (Zh (ov Y) Q7 Y Y)<|bE h fun y3 h_y3 h=>Rq Y (Zl (ZfL h_y3)<|.cons (ov Y) (.aggB Y) .nil)<|Ra Y<|Za<|K2 1 3 Y<|Tr<|Rm Y<|R2 QC Y<|Za<|K3 1 3 20 Y<|If h Y (fun h=>?_) fun h=>?_
   ·
    refine K1 3 Y<|Tr<|Rm Y<|Ra Y<|Za<|?_
    obtain rfl := rt h
    exact Zi (Zq Y (.one<|rb Y))
   ·
    refine Ze<|Zj<|K1 1 Y<|Tr<|Rq Y (Zh (ov Y) Q7 Y Y)<|bE h fun y4 h_y4 h=>Rq Y (Zl (ZfM h_y4)<|.cons (ov Y) (.aggB Y) .nil)<|Ra Y<|Za<|K2 1 4 Y<|Tr<|Rm Y<|R2 QC Y<|Za<|K3 1 4 25 Y<|If h Y (fun h=>?_) fun h=>?_
    ·
     refine K1 4 Y<|Tr<|Rm Y<|Ra Y<|Za<|?_
     obtain rfl := rt h
     exact Zi (Zq Y (.one<|rb Y))
    ·
     refine Ze<|K1 1 Y<|Tr<|Rx Y (ZcC 0 Y Zkl)<|Ra Y<|Za<|K2 1 5 Y<|Tr<|Rq Y (Zh (ov Y) Q7 Y Y)<|bE h fun y5 h_y5 h=>Rq Y (Zl (Zb7 h_y5)<|.cons (ov Y) (.b Y)<|.cons (ov Y) (.aggB Y) .nil)<|Ra Y<|Za<|J0 (fun j => (.inr j)) ⟨[(6, .sl 85 (List.map R85 y5))], []⟩ h (fun h=>?_) fun h=>?_
     ·
      refine K2 5 6 Y<|Tr<|Rm Y<|Rl tZ_85 Zbq Y<|Rm Y<|Za<|Zf<|?_
      obtain ⟨r1, hl1, ho1⟩ := Z1 h
      refine L2 (fun taken i=>⟨[(5, .mref 0 1), (6, .sl 85 (List.map R85 y5)), (30, .sl 85 (List.map R85 y5)), (31, .int .i64 (y5.length : Int)), (32, .int .i64 i)], [some ⟨108, [[.mcon (List.map (Q3 XO FV3) taken)]]⟩]⟩) hl1 (ES [some 0] (hhp := .cons Y (QT (fk := XO) (fv := FV3) (m := ([] : List (layout_bit × Int))) tZ_108 (fun _=>XH<|rld Y) fun _=>.ren<|.dat Y) .nil)) fun n1 taken i h=>?_
      unfold QR at h
      refine Tr<|R2 Zw Y<|Za<|Zj<|If h Y (fun h=>?_) fun h=>?_
      ·
       refine Ze<|Zj<|Zf<|K5 5 6 30 31 32 Y<|Tr<|bE h fun x h_x h=>Rq Y (Zx (ov Y) (ov Y) Zbq h_x)<|Rq Y (Zh (ov Y) Ze6 Y Y)<|Rx Y (Zt (row := [_, _, _, _]) 1 Y ZkN Y tZ_85)<|Rx Y (Zo (ov Y) (ov Y) (Zk Ze6 Y) Y Y Y (Nat.le_of_ble_eq_true Y) (Zd Y) Y)<|Za<|K6 5 6 8 30 31 32 Y<|Tr<|Rm Y<|Rq Y (Zg (ov Y) Y Y Zcr)<|Rq Y (Zn (ov Y) Y Y Y Zhy Y)<|bE h fun y6 h_y6 h=>Rx Y (Qq [0] (Zfm h_y6) (.cons (ov Y) (.mref _ Y)<|.cons (ov Y) (.dat Y)<|.cons (ov Y) (.dat Y) .nil) (.cons Y (QT (fk := XO) (fv := FV3) (m := taken) tZ_108 (fun _=>XH<|rld Y) fun _=>.ren<|.dat Y) .nil) Y (.lent 0 (.inl Y) Y (QT (fk := XO) (fv := FV3) (m := y6.2) tZ_108 (fun _=>XH<|rld Y) fun _=>.ren<|.dat Y)<|.keep Y Y .nil) Y Y<|.dat Y)<|R1 Z0 Y<|Za<|K6 5 6 30 31 32 40 Y<|If h Y (fun h=>?_) fun h=>?_
       ·
        refine K0<|Tr<|Ra Y<|Za<|?_
        replace h := lx h ▸ ho1
        obtain rfl := rt h
        exact Zi (Zq Y (.one<|rb Y))
       ·
        exact Ze<|K5 5 6 30 31 32 Y<|Zs<|R2 ZB Y<|Rm Y<|Za<|⟨_, h, ES [some 0] (hhp := .cons Y (QT (fk := XO) (fv := FV3) (m := y6.2) tZ_108 (fun _=>XH<|rld Y) fun _=>.ren<|.dat Y) .nil)⟩
      ·
       refine Zu<|?_
       replace h := lx h ▸ ho1
       exact ⟨_, h, ES []⟩
     ·
      replace h := elr h
      replace h := t0i h
      refine Zj<|Tr<|Rm Y<|Rl tZ_85 Zbq Y<|R2 Z4 Y<|Za<|K1 44 Y<|If h Y (fun h=>?_) fun h=>?_
      ·
       refine K0<|Tr<|Ra Y<|Za<|?_
       obtain rfl := rt h
       exact Zi (Zq Y (.one<|rb Y))
      ·
       refine Ze<|K0<|Tr<|Ra Y<|Za<|?_
       obtain rfl := rt h
       exact Zi (Zq Y (.one<|rb Y))
theorem Xc {s : List api_Param} {f : api_Param → Option Bool} {r : Int} {f_f : FuncId} {f_c : List AV} (f_d : f_c.all datB = true) (f_h : ∀ (z0 : api_Param) z, f z0 = some z → CSpec Tryz.prog gl0 f_f ([.agg [.str z0.Name, .int .i64 z0.Kind, .sl 121 (List.map Z9 z0.Parts), .int .i64 z0.First, .int .i64 z0.Every, .int .i64 z0.Times, .int .i64 z0.Step, .sl 9 (List.map R9 z0.Names)]] ++ f_c) (.bool z)) (h : ZH s f = some r) :
 CSpec Tryz.prog gl0 11 [.sl 45 (List.map R45 s), .fn f_f f_c] (.int .i64 r) := by
 unfold ZH at h
 replace h := ZE h
 refine So Tryz.func11 Y fun w0 A=>Tr<|Ra Y<|Za<|J0 (fun j => (.inr j)) ⟨[], []⟩ h (fun h=>?_) fun h=>?_
 ·
  refine K2 0 1 Y<|Tr<|Rm Y<|Rl tZ_45 ZbX Y<|Rm Y<|Za<|Zf<|?_
  obtain ⟨r1, hl1, ho1⟩ := Z1 h
  refine L1 (fun i=>⟨[(0, .sl 45 (List.map R45 s)), (1, .fn f_f f_c), (7, .int .i64 (s.length : Int)), (8, .int .i64 i)], []⟩) hl1 (ES []<|sd 0 Y Y<|sr 1 Y (rFn<|rld f_d)<|sd 7 Y Y<|sd 8 Y Y sn) fun n1 i h=>?_
  unfold Zz at h
  refine Tr<|R2 Zw Y<|Za<|Zj<|If h Y (fun h=>?_) fun h=>?_
  ·
   refine Ze<|Zj<|Zf<|K4 0 1 7 8 Y<|Tr<|Rm Y<|Ra Y<|Za<|K5 0 1 5 7 8 Y<|Tr<|Rm Y<|Rm Y<|Rm Y<|bE h fun x h_x h=>Rq Y (Zx (ov Y) (ov Y) ZbX h_x)<|Rq Y (Zh (ov Y) Q7 Y Y)<|bE h fun y h_y h=>Rq Y (JZ (ov Y) f_d (f_h _ _ h_y)<|.cons (ov Y) (.aggB Y) .nil)<|Za<|K6 0 1 5 7 8 16 Y<|If h Y (fun h=>?_) fun h=>?_
   ·
    refine K1 5 Y<|Tr<|Rm Y<|Ra Y<|Za<|?_
    replace h := lx h ▸ ho1
    obtain rfl := rt h
    exact Zi (Zq Y (.one<|rb Y))
   ·
    exact Ze<|K4 0 1 7 8 Y<|Zs<|R2 ZB Y<|Rm Y<|Za<|⟨_, h, ES []<|sd 0 Y Y<|sr 1 Y (rFn<|rld f_d)<|sd 7 Y Y<|sd 8 Y Y sn⟩
  ·
   refine Zu<|?_
   replace h := lx h ▸ ho1
   exact ⟨_, h, ES []⟩
 ·
  replace h := elr h
  replace h := t0i h
  refine Tr<|Ra Y<|Za<|?_
  obtain rfl := rt h
  exact Zi (Zq Y (.one<|rb Y))
end Go.Proofs.YtacmhbfmedpkhaaGreatDoor
