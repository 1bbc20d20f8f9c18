/- A text of the proof: a verified executor of the program form, or the contracts of the functions that the law reaches. -/
import Derived.Test.YtpfdelgflppgnabDoorVR
import Derived.Test.YtpfdelgflppgnabDoorShT
import Derived.Test.YtpfdelgflppgnabDoorProg
import Derived.Test.YtpfdelgflppgnabDoorLayB
set_option linter.all false
namespace Go.Proofs.YtpfdelgflppgnabDoor
open Go Go.Vx
set_option maxRecDepth 10000
set_option maxHeartbeats 1000000
set_option linter.unusedVariables false
theorem tZ_42 : Tryd.prog.cellsOf 42 = 4 := by kernel_rfl
instance : SzD Tryd.prog 42 4 := ⟨tZ_42⟩
theorem tZ_9 : Tryd.prog.cellsOf 9 = 1 := by kernel_rfl
instance : SzD Tryd.prog 9 1 := ⟨tZ_9⟩
theorem tZ_46 : Tryd.prog.cellsOf 46 = 8 := by kernel_rfl
instance : SzD Tryd.prog 46 8 := ⟨tZ_46⟩
theorem tZ_3 : Tryd.prog.cellsOf 3 = 1 := by kernel_rfl
instance : SzD Tryd.prog 3 1 := ⟨tZ_3⟩
theorem tZ_24 : Tryd.prog.cellsOf 24 = 2 := by kernel_rfl
instance : SzD Tryd.prog 24 2 := ⟨tZ_24⟩
theorem ZgF : tAgg Tryd.prog 24 2 = true := by kernel_rfl
theorem tZ_28 : Tryd.prog.cellsOf 28 = 64 := by kernel_rfl
instance : SzD Tryd.prog 28 64 := ⟨tZ_28⟩
theorem Zll : Xi Tryd.prog 29 = some (List.flatten (List.replicate 16 (List.flatten (List.replicate 64 [.int .u16 0])))) := by kernel_rfl
theorem tZ_29 : Tryd.prog.cellsOf 29 = 1024 := by kernel_rfl
instance : SzD Tryd.prog 29 1024 := ⟨tZ_29⟩
theorem Zjb : Xi Tryd.prog 35 = some [.slice none 0 0, .slice none 0 0, .slice none 0 0, .slice none 0 0, .slice none 0 0, .slice none 0 0, .slice none 0 0, .slice none 0 0, .slice none 0 0, .slice none 0 0, .slice none 0 0, .slice none 0 0, .slice none 0 0, .slice none 0 0, .slice none 0 0, .slice none 0 0] := by kernel_rfl
theorem tZ_35 : Tryd.prog.cellsOf 35 = 16 := by kernel_rfl
instance : SzD Tryd.prog 35 16 := ⟨tZ_35⟩
theorem Zht : tFld Tryd.prog 24 0 0 = true := by kernel_rfl
theorem tS3 : tScal Tryd.prog 3 = true := by kernel_rfl
theorem J9 : tFld Tryd.prog 24 1 1 = true := by kernel_rfl
theorem Zd9 : tScal Tryd.prog 22 = true := by kernel_rfl
theorem Za9 : tSl Tryd.prog 22 46 8 104 = true := by kernel_rfl
theorem Q5 : tAgg Tryd.prog 46 8 = true := by kernel_rfl
theorem Zhh : Xi Tryd.prog 46 = some [.string ⟨#[]⟩, .int .i64 0, .slice none 0 0, .int .i64 0, .int .i64 0, .int .i64 0, .int .i64 0, .slice none 0 0] := by kernel_rfl
theorem Zgz : tFld Tryd.prog 46 0 0 = true := by kernel_rfl
theorem tS9 : tScal Tryd.prog 9 = true := by kernel_rfl
theorem ZeZ : tStr Tryd.prog 9 = true := by kernel_rfl
theorem ZaY : tFld Tryd.prog 46 1 1 = true := by kernel_rfl
theorem Zbu : tFld Tryd.prog 46 2 2 = true := by kernel_rfl
theorem ZfA : tScal Tryd.prog 43 = true := by kernel_rfl
theorem Zcn : tSl Tryd.prog 43 42 4 32 = true := by kernel_rfl
theorem Zde : tAgg Tryd.prog 42 4 = true := by kernel_rfl
theorem Zh9 : Xi Tryd.prog 42 = some [.int .i64 0, .int .i64 0, .int .i64 0, .int .i64 0] := by kernel_rfl
theorem ZgA : tFld Tryd.prog 42 0 0 = true := by kernel_rfl
theorem Zf6 : tFld Tryd.prog 42 1 1 = true := by kernel_rfl
theorem Zgd : tFld Tryd.prog 42 2 2 = true := by kernel_rfl
theorem Zgi : tFld Tryd.prog 42 3 3 = true := by kernel_rfl
theorem X3 : tSl Tryd.prog 25 3 1 8 = true := by kernel_rfl
theorem Zgm : tFld Tryd.prog 46 4 4 = true := by kernel_rfl
theorem Zi8 : tFld Tryd.prog 46 3 3 = true := by kernel_rfl
theorem Zc6 : tFld Tryd.prog 46 5 5 = true := by kernel_rfl
theorem Zc2 : tFld Tryd.prog 46 6 6 = true := by kernel_rfl
theorem tB4 : (match Tryd.prog.underlying 4 with | some .bool => true | _ => false) = true := by kernel_rfl
theorem Zbr : tFld Tryd.prog 46 7 7 = true := by kernel_rfl
theorem ZfZ : tScal Tryd.prog 44 = true := by kernel_rfl
theorem Zdd : tSl Tryd.prog 44 9 1 16 = true := by kernel_rfl
theorem ZkQ : tMap Tryd.prog 83 106 3 = true := by kernel_rfl
theorem tZ3 : Xi Tryd.prog 3 = some [.int .i64 0] := by kernel_rfl
theorem ZbZ : tSl Tryd.prog 54 58 4 48 = true := by kernel_rfl
theorem Zny : ZaK Tryd.prog 58 = some [(0, 1), (1, 1), (2, 1), (3, 1)] := by kernel_rfl
theorem ZnB : Zc3 Tryd.prog 58 = true := by kernel_rfl
theorem ZhG : Xi Tryd.prog 58 = some [.int .i64 0, .int .i64 0, .int .i64 0, .slice none 0 0] := by kernel_rfl
theorem tZ_58 : Tryd.prog.cellsOf 58 = 4 := by kernel_rfl
instance : SzD Tryd.prog 58 4 := ⟨tZ_58⟩
theorem ZdO : tAgg Tryd.prog 58 4 = true := by kernel_rfl
theorem Zc4 : tFld Tryd.prog 58 3 3 = true := by kernel_rfl
theorem Zh0 : tScal Tryd.prog 56 = true := by kernel_rfl
theorem Zjz : Xi Tryd.prog 65 = some [.int .i64 0, .int .i64 0, .int .i64 0, .int .i64 0] := by kernel_rfl
theorem tZ_65 : Tryd.prog.cellsOf 65 = 4 := by kernel_rfl
instance : SzD Tryd.prog 65 4 := ⟨tZ_65⟩
theorem ZnR : ZaK Tryd.prog 65 = some [(0, 1), (1, 1), (2, 1), (3, 1)] := by kernel_rfl
theorem ZnN : Zc3 Tryd.prog 65 = true := by kernel_rfl
theorem ZgE : tAgg Tryd.prog 65 4 = true := by kernel_rfl
theorem Zf1 : tSl Tryd.prog 56 65 4 32 = true := by kernel_rfl
theorem Zoo : Zff Tryd.prog 106 [.i .i64, .i .i64, .i .i64] = true := by kernel_rfl
theorem Zpp : Zif Tryd.prog 3 = some (.int .i64 0) := by kernel_rfl
theorem Zea : tFld Tryd.prog 65 3 3 = true := by kernel_rfl
theorem ZhA : tFld Tryd.prog 65 0 0 = true := by kernel_rfl
theorem Zhb : tFld Tryd.prog 65 1 1 = true := by kernel_rfl
theorem Zgp : tFld Tryd.prog 65 2 2 = true := by kernel_rfl
theorem Zom : ZaK Tryd.prog 106 = some [(0, 1), (1, 1), (2, 1)] := by kernel_rfl
theorem Zok : Zc3 Tryd.prog 106 = true := by kernel_rfl
theorem ZnH : Xi Tryd.prog 106 = some [.int .i64 0, .int .i64 0, .int .i64 0] := by kernel_rfl
theorem Zks : tSl Tryd.prog 103 106 3 24 = true := by kernel_rfl
theorem tZ_106 : Tryd.prog.cellsOf 106 = 3 := by kernel_rfl
instance : SzD Tryd.prog 106 3 := ⟨tZ_106⟩
theorem Zkt : tAgg Tryd.prog 106 3 = true := by kernel_rfl
theorem tZ_83 : Tryd.prog.cellsOf 83 = 1 := by kernel_rfl
instance : SzD Tryd.prog 83 1 := ⟨tZ_83⟩
theorem Za0 : tAgg Tryd.prog 35 16 = true := by kernel_rfl
theorem ZdF : tArr Tryd.prog 35 16 25 1 = true := by kernel_rfl
theorem ZdJ : tScal Tryd.prog 25 = true := by kernel_rfl
theorem Zgu : tFld Tryd.prog 58 0 0 = true := by kernel_rfl
theorem Zgc : Xi Tryd.prog 62 = some [.int .i64 0, .int .i64 0, .nilFunc, .nilFunc] := by kernel_rfl
theorem tZ_62 : Tryd.prog.cellsOf 62 = 4 := by kernel_rfl
instance : SzD Tryd.prog 62 4 := ⟨tZ_62⟩
theorem Zpw : Xi Tryd.prog 59 = some [.nilFunc] := by kernel_rfl
theorem tZ_59 : Tryd.prog.cellsOf 59 = 1 := by kernel_rfl
instance : SzD Tryd.prog 59 1 := ⟨tZ_59⟩
theorem Zoq : tScal Tryd.prog 59 = true := by kernel_rfl
theorem Zpv : Xi Tryd.prog 86 = some [.nilFunc] := by kernel_rfl
theorem tZ_86 : Tryd.prog.cellsOf 86 = 1 := by kernel_rfl
instance : SzD Tryd.prog 86 1 := ⟨tZ_86⟩
theorem Znm : tScal Tryd.prog 86 = true := by kernel_rfl
theorem Zdc : tMap Tryd.prog 88 3 87 = true := by kernel_rfl
theorem tI3 : tInt Tryd.prog 3 .i64 = true := by kernel_rfl
theorem tZ_88 : Tryd.prog.cellsOf 88 = 1 := by kernel_rfl
instance : SzD Tryd.prog 88 1 := ⟨tZ_88⟩
theorem Zij : Zif Tryd.prog 87 = some .nilFunc := by kernel_rfl
theorem ZkJ : ZaK Tryd.prog 62 = some [(0, 1), (1, 1), (2, 1), (3, 1)] := by kernel_rfl
theorem ZkB : Zc3 Tryd.prog 62 = true := by kernel_rfl
theorem ZbM : tAgg Tryd.prog 62 4 = true := by kernel_rfl
theorem Zn7 : tFld Tryd.prog 62 0 0 = true := by kernel_rfl
theorem ZoC : tFld Tryd.prog 62 1 1 = true := by kernel_rfl
theorem Zof : tFld Tryd.prog 62 2 2 = true := by kernel_rfl
theorem ZbI : tAgg Tryd.prog 29 1024 = true := by kernel_rfl
theorem Zgy : Xi Tryd.prog 28 = some [.int .u16 0, .int .u16 0, .int .u16 0, .int .u16 0, .int .u16 0, .int .u16 0, .int .u16 0, .int .u16 0, .int .u16 0, .int .u16 0, .int .u16 0, .int .u16 0, .int .u16 0, .int .u16 0, .int .u16 0, .int .u16 0, .int .u16 0, .int .u16 0, .int .u16 0, .int .u16 0, .int .u16 0, .int .u16 0, .int .u16 0, .int .u16 0, .int .u16 0, .int .u16 0, .int .u16 0, .int .u16 0, .int .u16 0, .int .u16 0, .int .u16 0, .int .u16 0, .int .u16 0, .int .u16 0, .int .u16 0, .int .u16 0, .int .u16 0, .int .u16 0, .int .u16 0, .int .u16 0, .int .u16 0, .int .u16 0, .int .u16 0, .int .u16 0, .int .u16 0, .int .u16 0, .int .u16 0, .int .u16 0, .int .u16 0, .int .u16 0, .int .u16 0, .int .u16 0, .int .u16 0, .int .u16 0, .int .u16 0, .int .u16 0, .int .u16 0, .int .u16 0, .int .u16 0, .int .u16 0, .int .u16 0, .int .u16 0, .int .u16 0, .int .u16 0] := by kernel_rfl
theorem ZaF : tArr Tryd.prog 28 64 26 1 = true := by kernel_rfl
theorem ZaC : tAgg Tryd.prog 28 64 = true := by kernel_rfl
theorem Zfp : tInt Tryd.prog 26 .u16 = true := by kernel_rfl
theorem tI5 : tInt Tryd.prog 5 .u8 = true := by kernel_rfl
theorem ZbO : tScal Tryd.prog 26 = true := by kernel_rfl
theorem Zpu : tArr Tryd.prog 90 4 26 1 = true := by kernel_rfl
theorem ZoR : tArr Tryd.prog 29 16 28 64 = true := by kernel_rfl
theorem ZkZ : tMap Tryd.prog 94 115 4 = true := by kernel_rfl
theorem Zop : tIntA Tryd.prog 115 3 3 .i64 = true := by kernel_rfl
theorem Zpx : Zif Tryd.prog 4 = some (.bool false) := by kernel_rfl
theorem Zo4 : tArr Tryd.prog 115 3 3 1 = true := by kernel_rfl
theorem ZnP : Xi Tryd.prog 115 = some [.int .i64 0, .int .i64 0, .int .i64 0] := by kernel_rfl
theorem tZ_115 : Tryd.prog.cellsOf 115 = 3 := by kernel_rfl
instance : SzD Tryd.prog 115 3 := ⟨tZ_115⟩
theorem Zmt : tAgg Tryd.prog 115 3 = true := by kernel_rfl
theorem tZ_94 : Tryd.prog.cellsOf 94 = 1 := by kernel_rfl
instance : SzD Tryd.prog 94 1 := ⟨tZ_94⟩
theorem ZnQ : tArr Tryd.prog 109 4 3 1 = true := by kernel_rfl
theorem Zo9 : Xi Tryd.prog 109 = some [.int .i64 0, .int .i64 0, .int .i64 0, .int .i64 0] := by kernel_rfl
theorem Zpf : ZaK Tryd.prog 42 = some [(0, 1), (1, 1), (2, 1), (3, 1)] := by kernel_rfl
theorem Zpc : Zc3 Tryd.prog 42 = true := by kernel_rfl
theorem Zo7 : ZaK Tryd.prog 46 = some [(0, 1), (1, 1), (2, 1), (3, 1), (4, 1), (5, 1), (6, 1), (7, 1)] := by kernel_rfl
theorem Zpd : Zc3 Tryd.prog 46 = true := by kernel_rfl
theorem Zpg : ZaK Tryd.prog 24 = some [(0, 1), (1, 1)] := by kernel_rfl
theorem Zpj : Zc3 Tryd.prog 24 = true := by kernel_rfl
theorem ZoQ : Xi Tryd.prog 24 = some [.int .i64 0, .slice none 0 0] := by kernel_rfl
theorem Znc : ZmG Tryd.prog 62 3 3 = true := by kernel_rfl
theorem Zot : tFld Tryd.prog 58 1 1 = true := by kernel_rfl
theorem ZnF : ZaK Tryd.prog 51 = some [(0, 1), (1, 1), (2, 1), (3, 1)] := by kernel_rfl
theorem ZnS : Zc3 Tryd.prog 51 = true := by kernel_rfl
theorem ZoU : Xi Tryd.prog 51 = some [.int .i64 0, .int .i64 0, .int .i64 0, .bool false] := by kernel_rfl
theorem Zm5 : tSl Tryd.prog 47 51 4 32 = true := by kernel_rfl
theorem tZ_51 : Tryd.prog.cellsOf 51 = 4 := by kernel_rfl
instance : SzD Tryd.prog 51 4 := ⟨tZ_51⟩
theorem Zpq : tAgg Tryd.prog 51 4 = true := by kernel_rfl
theorem ZoP : Zff Tryd.prog 51 [.i .i64, .i .i64, .i .i64, .b] = true := by kernel_rfl
def gl0 : Gl := ⟨1, [(0, (gv_frame_syncs.toList.map fun z => Value.int .u16 z).toArray)]⟩
def R42 (x : api_Part) : List AV := [.int .i64 x.Frame, .int .i64 x.Word, .int .i64 x.Low, .int .i64 x.Bits]
def R9 (x : Str) : List AV := [.str x]
def R46 (x : api_Param) : List AV := [.str x.Name, .int .i64 x.Kind, .sl 42 (List.map R42 x.Parts), .int .i64 x.First, .int .i64 x.Every, .int .i64 x.Times, .int .i64 x.Step, .sl 9 (List.map R9 x.Names)]
def R3 (x : Int) : List AV := [.int .i64 x]
def C26 (x : Int) : AV := .int .u16 x
def R28 (x : Vector Int 64) : List AV := (List.map C26 x.toList)
theorem D28 (x : Vector Int 64) : (R28 x).length = Tryd.prog.cellsOf 28 ∧ (R28 x).all datB = true := ⟨Eq.trans (b := 64) arL tZ_28.symm, (arD fun _ => rfl)⟩
instance : RowD Tryd.prog 28 R28 := ⟨D28⟩
theorem D3 (x : Int) : (R3 x).length = Tryd.prog.cellsOf 3 ∧ (R3 x).all datB = true := ⟨tZ_3.symm, rfl⟩
instance : RowD Tryd.prog 3 R3 := ⟨D3⟩
def R65 (x : api_Place) : List AV := [.int .i64 x.Frame, .int .i64 x.Word, .int .i64 x.Low, .int .i64 x.Bits]
theorem D65 (x : api_Place) : (R65 x).length = Tryd.prog.cellsOf 65 ∧ (R65 x).all datB = true := ⟨tZ_65.symm, rfl⟩
instance : RowD Tryd.prog 65 R65 := ⟨D65⟩
def R58 (x : api_Cell) : List AV := [.int .i64 x.Param, .int .i64 x.Index, .int .i64 x.Frame, .sl 65 (List.map R65 x.Places)]
theorem D58 (x : api_Cell) : (R58 x).length = Tryd.prog.cellsOf 58 ∧ (R58 x).all datB = true := ⟨tZ_58.symm, rfl⟩
instance : RowD Tryd.prog 58 R58 := ⟨D58⟩
def Xn (x : layout_bit) : AV := .agg [.int .i64 x.frame, .int .i64 x.word, .int .i64 x.bit]
theorem Zmh : KeyOK Tryd.prog 106 Xn kq_layout_bit := Zj4 Zoo (fun _ => rfl)
def FV3 (x : Int) : AV := .int .i64 x
def R106 (x : layout_bit) : List AV := [.int .i64 x.frame, .int .i64 x.word, .int .i64 x.bit]
theorem D106 (x : layout_bit) : (R106 x).length = Tryd.prog.cellsOf 106 ∧ (R106 x).all datB = true := ⟨tZ_106.symm, rfl⟩
instance : RowD Tryd.prog 106 R106 := ⟨D106⟩
def C25 (x : List Int) : AV := .sl 3 (List.map R3 x)
def FK3 (x : Int) : AV := .int .i64 x
theorem ZgT : KeyOK Tryd.prog 3 FK3 kqI := ZmQ (fun _ => rfl) tI3
def Zcr (x : Fv (Int → Option Int)) : Prop := x.c.all datB = true ∧ ∀ z0 r, x.fn z0 = some r → CSpec Tryd.prog gl0 x.f ([.int .i64 z0] ++ x.c) (.int .i64 r)
def Zcq (x : Fv (Int → Option (Int × Bool))) : Prop := x.c.all datB = true ∧ ∀ z0 r, x.fn z0 = some r → CSpec Tryd.prog gl0 x.f ([.int .i64 z0] ++ x.c) (.tuple [.int .i64 r.1, .bool r.2])
theorem E28 (x : Vector Int 64) : (R28 x).all c1B = true := (arC fun _ => rfl)
def C3 (x : Int) : AV := .int .i64 x
def Q7 (x : Vector Int 3) : AV := .agg (List.map C3 x.toList)
theorem ZmF : KeyOK Tryd.prog 115 Q7 kqV := Zm3 (fun _ => rfl) Zop
def FV4 (x : Bool) : AV := .bool x
theorem Q28 (a b : Vector Int 64) : Xp (R28 a) (R28 b) = ZfO a b := (eqV fun _ _ => rfl)
theorem ZoO : ZoG Tryd.prog 29 ((List.replicate 16 ((List.replicate 64 ([.i .u16])).flatten)).flatten) := ⟨by kernel_rfl, by kernel_rfl, by kernel_rfl⟩
theorem ZnT (x : Vector Int 64) : ZS ((List.replicate 64 ([.i .u16])).flatten) (R28 x) = true := (fkV fun _ => rfl)
def R51 (x : api_Reading) : List AV := [.int .i64 x.Param, .int .i64 x.Index, .int .i64 x.Value, .bool x.Good]
theorem D51 (x : api_Reading) : (R51 x).length = Tryd.prog.cellsOf 51 ∧ (R51 x).all datB = true := ⟨tZ_51.symm, rfl⟩
instance : RowD Tryd.prog 51 R51 := ⟨D51⟩
theorem Z4 {n : Int} {low : Int} {high : Int} {r : Bool} (h : ZO n low high = some r) :
 CSpec Tryd.prog gl0 8 [.int .i64 n, .int .i64 low, .int .i64 high] (.bool r) := by
 unfold ZO at h
 replace h := Z0 h
 refine So Tryd.func8 Y fun w0 A=>Tr<|Ra Y<|Za<|Tr<|Rm Y<|Rm Y<|R2 ZbG Y<|Rm Y<|Rq Y (.guarded ((decide (low ≤ n)) == true) Y Y Y Y fun h => Zr<|ov Y)<|Rq Y (.guarded ((decide (low ≤ n)) == true) Y Y Y Y fun h => Zr<|ov Y)<|Rq Y (.guarded ((decide (low ≤ n)) == true) Y Y Y Y fun h => Ze1 (ow Y h)<|ow Y h)<|Rq Y (JW (ov Y) fun hp=>ow Y<|gT hp)<|Ra Y<|Za<|?_
 obtain rfl := rt h
 exact Zi (Zn Y (.one<|rb Y))
theorem ZlD {s : Str} {f : Int → Option Bool} {r : Bool} {f_f : FuncId} {f_c : List AV} (f_d : f_c.all datB = true) (f_h : ∀ (z0 : Int) z, f z0 = some z → CSpec Tryd.prog gl0 f_f ([.int .i32 z0] ++ f_c) (.bool z)) (h : Zae s f = some r) :
    CSpec Tryd.prog gl0 82 [.str s, .fn f_f f_c] (.bool r) :=
  ZgW (by kernel_rfl) (fun g lb eg p s w hp => Any.strings_ContainsFunc_grows Tryd.laysGw17 g lb eg p s w hp) f_d f_h h
theorem Zfb {c_ : Int} {r : Bool} (h : ZaN c_ = some r) :
 CSpec Tryd.prog gl0 83 [.int .i32 c_] (.bool r) := by
 unfold ZaN at h
 replace h := Z0 h
 refine So Tryd.func83 Y fun w0 A=>Tr<|Ra Y<|Za<|Tr<|Rm Y<|R2 ZbG Y<|Rm Y<|Rq Y (.guarded ((decide (97 ≤ c_)) == true) Y Y Y Y fun h => Zr<|ov Y)<|Rq Y (.guarded ((decide (97 ≤ c_)) == true) Y Y Y Y fun h => Ze1 (ow Y h)<|ov Y)<|Rq Y (JW (ov Y) fun hp=>ow Y<|gT hp)<|Rm Y<|Rq Y (.guarded (((decide (97 ≤ c_)) && (decide (c_ ≤ 122))) == false) Y Y Y Y fun h => Zr<|ov Y)<|Rq Y (.guarded (((decide (97 ≤ c_)) && (decide (c_ ≤ 122))) == false) Y Y Y Y fun h => ZbG (ow Y h)<|ov Y)<|Rq Y (.guarded (((decide (97 ≤ c_)) && (decide (c_ ≤ 122))) == false) Y Y Y Y fun h => Zr<|ow Y h)<|Rq Y (.guarded2 ((((decide (97 ≤ c_)) && (decide (c_ ≤ 122))) == false) && ((decide (48 ≤ c_)) == true)) Y Y Y Y fun h => Zr<|ov Y)<|Rq Y (.guarded2 ((((decide (97 ≤ c_)) && (decide (c_ ≤ 122))) == false) && ((decide (48 ≤ c_)) == true)) Y Y Y Y fun h => Ze1 (ow Y h)<|ov Y)<|Rq Y (.guarded (((decide (97 ≤ c_)) && (decide (c_ ≤ 122))) == false) Y Y Y Y fun h => JW (ow Y h) fun hp=>ow Y<|gA h<|gT hp)<|Rq Y (XX (ov Y) fun hp=>ow Y<|gF hp)<|Rm Y<|Rq Y (.guarded ((((decide (97 ≤ c_)) && (decide (c_ ≤ 122))) || ((decide (48 ≤ c_)) && (decide (c_ ≤ 57)))) == false) Y Y Y Y fun h => Zr<|ov Y)<|Rq Y (.guarded ((((decide (97 ≤ c_)) && (decide (c_ ≤ 122))) || ((decide (48 ≤ c_)) && (decide (c_ ≤ 57)))) == false) Y Y Y Y fun h => Qz (ow Y h)<|ov Y)<|Rq Y (XX (ov Y) fun hp=>ow Y<|gF hp)<|R1 X1 Y<|Ra Y<|Za<|?_
 obtain rfl := rt h
 exact Zi (Zn Y (.one<|rb Y))
theorem Zdi {s : Str} {r : Bool} (h : XY s = some r) :
 CSpec Tryd.prog gl0 65 [.str s] (.bool r) := by
 unfold XY at h
 replace h := Z0 h
 refine So Tryd.func65 Y fun w0 A=>Tr<|Ra Y<|Za<|Zh<|K1 0 Y<|Tr<|Rm Y<|Rq Y (Zef (ov Y) ZeZ Y)<|R2 ZH Y<|Rm Y<|Rq Y (.guarded ((decide ((s.length : Int) < 1)) == false) Y Y Y Y fun h => Zr<|ov Y)<|Rq Y (.guarded ((decide ((s.length : Int) < 1)) == false) Y Y Y Y fun h => Zef (ow Y h) ZeZ Y)<|Rq Y (.guarded ((decide ((s.length : Int) < 1)) == false) Y Y Y Y fun h => X0 (ow Y h)<|ov Y)<|Rq Y (XX (ov Y) fun hp=>ow Y<|gF hp)<|Rm Y<|Rq Y (.guarded (((decide ((s.length : Int) < 1)) || (decide (30 < (s.length : Int)))) == false) Y Y Y Y fun h => Zr<|ov Y)<|bE h fun b h_b h=>Rq Y (.guarded (((decide ((s.length : Int) < 1)) || (decide (30 < (s.length : Int)))) == false) Y Y Y Y fun h => Zd6 (ow Y h) (ov Y) ZeZ<|gdT h_b h)<|Rq Y (.guarded (((decide ((s.length : Int) < 1)) || (decide (30 < (s.length : Int)))) == false) Y Y Y Y fun h => ZH (ow Y h)<|ov Y)<|Rq Y (XX (ov Y) fun hp=>ow Y<|gF hp)<|Rm Y<|Rq Y (.guarded ((((decide ((s.length : Int) < 1)) || (decide (30 < (s.length : Int)))) || (decide (b < 97))) == false) Y Y Y Y fun h => Zr<|ov Y)<|bE h fun b2 h_b2 h=>Rq Y (.guarded ((((decide ((s.length : Int) < 1)) || (decide (30 < (s.length : Int)))) || (decide (b < 97))) == false) Y Y Y Y fun h => Zd6 (ow Y h) (ov Y) ZeZ<|gdT h_b2 h)<|Rq Y (.guarded ((((decide ((s.length : Int) < 1)) || (decide (30 < (s.length : Int)))) || (decide (b < 97))) == false) Y Y Y Y fun h => X0 (ow Y h)<|ov Y)<|Rq Y (XX (ov Y) fun hp=>ow Y<|gF hp)<|Za<|K2 0 20 Y<|If h Y (fun h=>?_) fun h=>?_
 ·
  refine K0<|Tr<|Ra Y<|Za<|?_
  obtain rfl := rt h
  exact Zi (Zn Y (.one<|rb Y))
 ·
  refine Ze<|K1 0 Y<|Tr<|Rm Y<|bE h fun y h_y h=>Rq Y (Zl (ZlD Y (fun z0 _ hz=>Zfb hz) h_y)<|.cons (ov Y) (.b Y)<|.cons (ov Y) .fn .nil)<|R1 X1 Y<|Ra Y<|Za<|?_
  obtain rfl := rt h
  exact Zi (Zn Y (.one<|rb Y))
theorem Zah {p : api_Param} {r : Int} (h : Qv p = some r) :
 CSpec Tryd.prog gl0 17 [.agg [.str p.Name, .int .i64 p.Kind, .sl 42 (List.map R42 p.Parts), .int .i64 p.First, .int .i64 p.Every, .int .i64 p.Times, .int .i64 p.Step, .sl 9 (List.map R9 p.Names)]] (.int .i64 r) := by
 unfold Qv at h
 replace h := Z0 h
 refine So Tryd.func17 Y fun w0 A=>Tr<|Rq Y (Qa (cva<|ov Y) Y tZ_46 Y)<|Ra Y<|Za<|K1 1 Y<|Tr<|Ra Y<|Za<|I1 (fun n=>⟨[(3, .int .i64 n)], []⟩) h (fun h=>?_) fun n h=>?_
 ·
  refine Tr<|Rq Y (Zf (ov Y) Zbu)<|Rq Y (Zb (ov Y) ZfA Y)<|Rl tZ_42 Zcn Y<|Rm Y<|Za<|Zd<|?_
  obtain ⟨r1, hl1, ho1⟩ := Qt h
  refine L2 (fun n2 i=>⟨[(3, .int .i64 n2), (7, .sl 42 (List.map R42 p.Parts)), (8, .int .i64 (p.Parts.length : Int)), (9, .int .i64 i)], []⟩) hl1 (ES []) fun n1 n2 i h=>?_
  unfold QA at h
  refine Tr<|R2 ZH Y<|Za<|Zh<|If h Y (fun h=>?_) fun h=>?_
  ·
   exact Ze<|Zh<|Zd<|K4 3 7 8 9 Y<|Tr<|bE h fun x h_x h=>Rq Y (ZE (ov Y) (ov Y) Zcn h_x)<|Rq Y (Zk (ov Y) Zde Y Y)<|Rx Y (Zq (row := [_, _, _, _]) 0 Y Zh9 Y tZ_42)<|Rx Y (Zj (ov Y) (ov Y) (Zg Zde Y) Y Y Y (Nat.le_of_ble_eq_true Y) (Zc Y) Y)<|Za<|K5 3 5 7 8 9 Y<|Zt<|Rm Y<|Rq Y (Zp (ov Y) Y Y Zgi)<|Rq Y (Zm (ov Y) Y Y Y tS3 Y)<|R2 ZT Y<|Ra Y<|Za<|K4 3 7 8 9 Y<|Zt<|R2 ZT Y<|Rm Y<|Za<|⟨_, h, ES []⟩
  ·
   refine Zz<|?_
   replace h := lx h ▸ ho1
   exact ⟨_, h, ES []⟩
 ·
  refine Tr<|Rm Y<|Ra Y<|Za<|?_
  obtain rfl := rt h
  exact Zi (Zn Y (.one<|rb Y))
theorem Zc9 {s : List Int} {v : Int} {r : Int} (h : Qy s v = some r) :
 CSpec Tryd.prog gl0 88 [.sl 3 (List.map R3 s), .int .i64 v] (.int .i64 r) := by
 unfold Qy at h
 replace h := Z0 h
 refine So Tryd.func88 Y fun w0 A=>Tr<|Ra Y<|Za<|J0 (fun j => (.inr j)) ⟨[], []⟩ h (fun h=>?_) fun h=>?_
 ·
  refine K2 0 1 Y<|Tr<|Rm Y<|Rl tZ_3 X3 Y<|Rm Y<|Za<|Zd<|?_
  obtain ⟨r1, hl1, ho1⟩ := Qt h
  refine L1 (fun i=>⟨[(0, .sl 3 (List.map R3 s)), (1, .int .i64 v), (7, .int .i64 (s.length : Int)), (8, .int .i64 i)], []⟩) hl1 (ES []) fun n1 i h=>?_
  unfold ZQ at h
  refine Tr<|R2 ZH Y<|Za<|Zh<|If h Y (fun h=>?_) fun h=>?_
  ·
   refine Ze<|Zh<|Zd<|K4 0 1 7 8 Y<|Tr<|Rm Y<|Ra Y<|Za<|K5 0 1 5 7 8 Y<|Tr<|Rm Y<|Rm Y<|Rm Y<|bE h fun x h_x h=>Rq Y (ZE (ov Y) (ov Y) X3 h_x)<|Rq Y (Zb (ov Y) tS3 Y)<|R2 Qz Y<|Za<|K6 0 1 5 7 8 16 Y<|If h Y (fun h=>?_) fun h=>?_
   ·
    refine K1 5 Y<|Tr<|Rm Y<|Ra Y<|Za<|?_
    replace h := lx h ▸ ho1
    obtain rfl := rt h
    exact Zi (Zn Y (.one<|rb Y))
   ·
    exact Ze<|K4 0 1 7 8 Y<|Zt<|R2 ZT Y<|Rm Y<|Za<|⟨_, h, ES []⟩
  ·
   refine Zz<|?_
   replace h := lx h ▸ ho1
   exact ⟨(), h, ES []⟩
 ·
  replace h := elr h
  replace h := t0i h
  refine Tr<|Ra Y<|Za<|?_
  obtain rfl := rt h
  exact Zi (Zn Y (.one<|rb Y))
theorem ZcD {s : List Int} {v : Int} {r : Bool} (h : Z3 s v = some r) :
 CSpec Tryd.prog gl0 84 [.sl 3 (List.map R3 s), .int .i64 v] (.bool r) := by
 unfold Z3 at h
 replace h := Z0 h
 refine So Tryd.func84 Y fun w0 A=>Tr<|Ra Y<|Za<|Tr<|Rm Y<|Rm Y<|bE h fun y h_y h=>Rq Y (Zl (Zc9 h_y)<|.cons (ov Y) (.b Y)<|.cons (ov Y) (.b Y) .nil)<|R2 ZbG Y<|Ra Y<|Za<|?_
 obtain rfl := rt h
 exact Zi (Zn Y (.one<|rb Y))
theorem Zeo {p : api_Param} {r : Int} (h : QE p = some r) :
 CSpec Tryd.prog gl0 66 [.agg [.str p.Name, .int .i64 p.Kind, .sl 42 (List.map R42 p.Parts), .int .i64 p.First, .int .i64 p.Every, .int .i64 p.Times, .int .i64 p.Step, .sl 9 (List.map R9 p.Names)]] (.int .i64 r) := by
 unfold QE at h
 replace h := Z0 h
 refine So Tryd.func66 Y fun w0 A=>Tr<|Rq Y (Qa (cva<|ov Y) Y tZ_46 Y)<|Ra Y<|Za<|Zh<|Zd<|K1 1 Y<|Tr<|Rq Y (Zf (ov Y) Zbu)<|Rq Y (Zb (ov Y) ZfA Y)<|Rl tZ_42 Zcn Y<|R2 Qz Y<|Ra Y<|Za<|K2 1 8 Y<|If h Y (fun h=>?_) fun h=>?_
 ·
  refine K0<|Tr<|Ra Y<|Za<|?_
  obtain rfl := rt h
  exact Zi (Zn Y (.one<|rb Y))
 ·
  refine K1 1 Y<|Tr<|Rq Y (Zf (ov Y) Zbu)<|Rq Y (Zb (ov Y) ZfA Y)<|Rl tZ_42 Zcn Y<|R2 X0 Y<|Ra Y<|Za<|K2 1 13 Y<|If h Y (fun h=>?_) fun h=>?_
  ·
   refine K0<|Tr<|Ra Y<|Za<|?_
   obtain rfl := rt h
   exact Zi (Zn Y (.one<|rb Y))
  ·
   refine Ze<|J0 (fun j => (.inr j)) ⟨[(1, .rp [.str p.Name, .int .i64 p.Kind, .sl 42 (List.map R42 p.Parts), .int .i64 p.First, .int .i64 p.Every, .int .i64 p.Times, .int .i64 p.Step, .sl 9 (List.map R9 p.Names)] 0)], []⟩ h (fun h=>?_) fun h=>?_
   ·
    refine K1 1 Y<|Tr<|Rq Y (Zf (ov Y) Zbu)<|Rq Y (Zb (ov Y) ZfA Y)<|Rl tZ_42 Zcn Y<|Rm Y<|Za<|Zd<|?_
    obtain ⟨r1, hl1, ho1⟩ := Qt h
    refine L1 (fun i=>⟨[(1, .rp [.str p.Name, .int .i64 p.Kind, .sl 42 (List.map R42 p.Parts), .int .i64 p.First, .int .i64 p.Every, .int .i64 p.Times, .int .i64 p.Step, .sl 9 (List.map R9 p.Names)] 0), (19, .sl 42 (List.map R42 p.Parts)), (20, .int .i64 (p.Parts.length : Int)), (21, .int .i64 i)], []⟩) hl1 (ES []) fun n1 i h=>?_
    unfold ZX at h
    refine Tr<|R2 ZH Y<|Za<|Zh<|If h Y (fun h=>?_) fun h=>?_
    ·
     refine Ze<|Zh<|Zd<|K4 1 19 20 21 Y<|Tr<|bE h fun x h_x h=>Rq Y (ZE (ov Y) (ov Y) Zcn h_x)<|Rq Y (Zk (ov Y) Zde Y Y)<|Rx Y (Zq (row := [_, _, _, _]) 0 Y Zh9 Y tZ_42)<|Rx Y (Zj (ov Y) (ov Y) (Zg Zde Y) Y Y Y (Nat.le_of_ble_eq_true Y) (Zc Y) Y)<|Za<|K5 1 4 19 20 21 Y<|Tr<|Rq Y (Zp (ov Y) Y Y ZgA)<|Rq Y (Zm (ov Y) Y Y Y tS3 Y)<|bE h fun y h_y h=>Rq Y (Zl (Z4 h_y)<|.cons (ov Y) (.b Y)<|.cons (ov Y) (.b Y)<|.cons (ov Y) (.b Y) .nil)<|R1 X1 Y<|Rm Y<|Rq Y (.guarded ((!y) == false) Y Y Y Y fun h => Zp (ov Y) Y Y Zf6)<|Rq Y (.guarded ((!y) == false) Y Y Y Y fun h => Zm (ow Y h) Y Y Y tS3 Y)<|bE h fun y2 h_y2 h=>Rq Y (.guarded ((!y) == false) Y Y Y Y fun h => Zl (Z4<|gdT h_y2 h)<|.cons (ow Y h) (.b Y)<|.cons (ov Y) (.b Y)<|.cons (ov Y) (.b Y) .nil)<|Rq Y (.guarded ((!y) == false) Y Y Y Y fun h => X1<|ow Y h)<|Rq Y (XX (ov Y) fun hp=>ow Y<|gF hp)<|Rm Y<|Rq Y (.guarded (((!y) || (!y2)) == false) Y Y Y Y fun h => Zp (ov Y) Y Y Zgd)<|Rq Y (.guarded (((!y) || (!y2)) == false) Y Y Y Y fun h => Zm (ow Y h) Y Y Y tS3 Y)<|bE h fun y3 h_y3 h=>Rq Y (.guarded (((!y) || (!y2)) == false) Y Y Y Y fun h => Zl (Z4<|gdT h_y3 h)<|.cons (ow Y h) (.b Y)<|.cons (ov Y) (.b Y)<|.cons (ov Y) (.b Y) .nil)<|Rq Y (.guarded (((!y) || (!y2)) == false) Y Y Y Y fun h => X1<|ow Y h)<|Rq Y (XX (ov Y) fun hp=>ow Y<|gF hp)<|Rm Y<|Rq Y (.guarded ((((!y) || (!y2)) || (!y3)) == false) Y Y Y Y fun h => Zp (ov Y) Y Y Zgi)<|Rq Y (.guarded ((((!y) || (!y2)) || (!y3)) == false) Y Y Y Y fun h => Zm (ow Y h) Y Y Y tS3 Y)<|Rq Y (.guarded ((((!y) || (!y2)) || (!y3)) == false) Y Y Y Y fun h => Zp (ov Y) Y Y Zgd)<|Rq Y (.guarded ((((!y) || (!y2)) || (!y3)) == false) Y Y Y Y fun h => Zm (ow Y h) Y Y Y tS3 Y)<|Rq Y (.guarded ((((!y) || (!y2)) || (!y3)) == false) Y Y Y Y fun h => Zis (ov Y) (ow Y h) Y)<|bE h fun y4 h_y4 h=>Rq Y (.guarded ((((!y) || (!y2)) || (!y3)) == false) Y Y Y Y fun h => Zl (Z4<|gdT h_y4 h)<|.cons (ow Y h) (.b Y)<|.cons (ov Y) (.b Y)<|.cons (ow Y h) (.b Y) .nil)<|Rq Y (.guarded ((((!y) || (!y2)) || (!y3)) == false) Y Y Y Y fun h => X1<|ow Y h)<|Rq Y (XX (ov Y) fun hp=>ow Y<|gF hp)<|Za<|K5 1 19 20 21 49 Y<|If h Y (fun h=>?_) fun h=>?_
     ·
      refine K0<|Tr<|Ra Y<|Za<|?_
      replace h := lx h ▸ ho1
      obtain rfl := rt h
      exact Zi (Zn Y (.one<|rb Y))
     ·
      exact Ze<|K4 1 19 20 21 Y<|Zt<|R2 ZT Y<|Rm Y<|Za<|⟨_, h, ES []⟩
    ·
     refine Zz<|?_
     replace h := lx h ▸ ho1
     exact ⟨(), h, ES []⟩
   ·
    replace h := elr h
    replace h := t0i h
    refine Zh<|Tr<|Rq Y (Zk (ov Y) Q5 Y Y)<|bE h fun y5 h_y5 h=>Rq Y (Zl (Zah h_y5)<|.cons (ov Y) (.aggB Y) .nil)<|R2 X0 Y<|Za<|K2 1 53 Y<|If h Y (fun h=>?_) fun h=>?_
    ·
     refine K0<|Tr<|Ra Y<|Za<|?_
     obtain rfl := rt h
     exact Zi (Zn Y (.one<|rb Y))
    ·
     refine Ze<|K1 1 Y<|Tr<|R_q (.sl 3<|List.map R3 ([1, 2, 4, 8, 16] : List Int)) Y (Zeu X3 (.cons (cvs (ov Y)<|Zs Y) Y (.cons (.b Y) .nil)<|.cons (cvs (ov Y)<|Zs Y) Y (.cons (.b Y) .nil)<|.cons (cvs (ov Y)<|Zs Y) Y (.cons (.b Y) .nil)<|.cons (cvs (ov Y)<|Zs Y) Y (.cons (.b Y) .nil)<|.cons (cvs (ov Y)<|Zs Y) Y (.cons (.b Y) .nil) .nil) Y Y)<|Rq Y (Zf (ov Y) Zgm)<|Rq Y (Zb (ov Y) tS3 Y)<|bE h fun y6 h_y6 h=>Rq Y (Zl (ZcD h_y6)<|.cons (ov Y) (.b Y)<|.cons (ov Y) (.b Y) .nil)<|Ra Y<|Za<|Zh<|K2 1 5 Y<|Tr<|Rm Y<|R1 X1 Y<|Rm Y<|Rq Y (.guarded ((!y6) == false) Y Y Y Y fun h => Zf (ov Y) Zi8)<|Rq Y (.guarded ((!y6) == false) Y Y Y Y fun h => Zb (ow Y h) tS3 Y)<|Rq Y (.guarded ((!y6) == false) Y Y Y Y fun h => Zf (ov Y) Zgm)<|Rq Y (.guarded ((!y6) == false) Y Y Y Y fun h => Zb (ow Y h) tS3 Y)<|Rq Y (.guarded ((!y6) == false) Y Y Y Y fun h => Zis (ow Y h) (ov Y) Y)<|bE h fun y7 h_y7 h=>Rq Y (.guarded ((!y6) == false) Y Y Y Y fun h => Zl (Z4<|gdT h_y7 h)<|.cons (ow Y h) (.b Y)<|.cons (ov Y) (.b Y)<|.cons (ow Y h) (.b Y) .nil)<|Rq Y (.guarded ((!y6) == false) Y Y Y Y fun h => X1<|ow Y h)<|Rq Y (XX (ov Y) fun hp=>ow Y<|gF hp)<|Rm Y<|Rq Y (.guarded (((!y6) || (!y7)) == false) Y Y Y Y fun h => Zf (ov Y) Zc6)<|Rq Y (.guarded (((!y6) || (!y7)) == false) Y Y Y Y fun h => Zb (ow Y h) tS3 Y)<|bE h fun y8 h_y8 h=>Rq Y (.guarded (((!y6) || (!y7)) == false) Y Y Y Y fun h => Zl (Z4<|gdT h_y8 h)<|.cons (ow Y h) (.b Y)<|.cons (ov Y) (.b Y)<|.cons (ov Y) (.b Y) .nil)<|Rq Y (.guarded (((!y6) || (!y7)) == false) Y Y Y Y fun h => X1<|ow Y h)<|Rq Y (XX (ov Y) fun hp=>ow Y<|gF hp)<|Rm Y<|Rq Y (.guarded ((((!y6) || (!y7)) || (!y8)) == false) Y Y Y Y fun h => Zf (ov Y) Zc2)<|Rq Y (.guarded ((((!y6) || (!y7)) || (!y8)) == false) Y Y Y Y fun h => Zb (ow Y h) tS3 Y)<|Rq Y (.guarded ((((!y6) || (!y7)) || (!y8)) == false) Y Y Y Y fun h => ZH (ow Y h)<|ov Y)<|Rq Y (XX (ov Y) fun hp=>ow Y<|gF hp)<|Rm Y<|Rq Y (.guarded (((((!y6) || (!y7)) || (!y8)) || (decide (p.Step < 0))) == false) Y Y Y Y fun h => Zf (ov Y) Zc2)<|Rq Y (.guarded (((((!y6) || (!y7)) || (!y8)) || (decide (p.Step < 0))) == false) Y Y Y Y fun h => Zb (ow Y h) tS3 Y)<|Rq Y (.guarded (((((!y6) || (!y7)) || (!y8)) || (decide (p.Step < 0))) == false) Y Y Y Y fun h => Qz (ow Y h)<|ov Y)<|Rq Y (.guarded (((((!y6) || (!y7)) || (!y8)) || (decide (p.Step < 0))) == false) Y Y Y Y fun h => Zf (ov Y) Zc6)<|Rq Y (.guarded (((((!y6) || (!y7)) || (!y8)) || (decide (p.Step < 0))) == false) Y Y Y Y fun h => Zb (ow Y h) tS3 Y)<|Rq Y (.guarded (((((!y6) || (!y7)) || (!y8)) || (decide (p.Step < 0))) == false) Y Y Y Y fun h => Qz (ow Y h)<|ov Y)<|Rq Y (.guarded (((((!y6) || (!y7)) || (!y8)) || (decide (p.Step < 0))) == false) Y Y Y Y fun h => ZhJ .neq (by simp) (ow Y h) (ow Y h) tB4)<|Rq Y (XX (ov Y) fun hp=>ow Y<|gF hp)<|Za<|K2 1 88 Y<|If h Y (fun h=>?_) fun h=>?_
     ·
      refine K0<|Tr<|Ra Y<|Za<|?_
      obtain rfl := rt h
      exact Zi (Zn Y (.one<|rb Y))
     ·
      refine Ze<|J0 (fun j => (.inr j)) ⟨[], []⟩ h (fun h=>?_) fun h=>?_
      ·
       refine K1 1 Y<|Tr<|Rq Y (Zf (ov Y) Zbu)<|Rq Y (Zb (ov Y) ZfA Y)<|Rl tZ_42 Zcn Y<|Rm Y<|Za<|Zd<|?_
       obtain ⟨r2, hl2, ho2⟩ := Qt h
       refine L1 (fun i2=>⟨[(1, .rp [.str p.Name, .int .i64 p.Kind, .sl 42 (List.map R42 p.Parts), .int .i64 p.First, .int .i64 p.Every, .int .i64 p.Times, .int .i64 p.Step, .sl 9 (List.map R9 p.Names)] 0), (90, .sl 42 (List.map R42 p.Parts)), (91, .int .i64 (p.Parts.length : Int)), (92, .int .i64 i2)], []⟩) hl2 (ES []) fun n2 i2 h=>?_
       unfold Qi at h
       refine Tr<|R2 ZH Y<|Za<|Zh<|If h Y (fun h=>?_) fun h=>?_
       ·
        refine Ze<|Zh<|Zd<|K4 1 90 91 92 Y<|Tr<|bE h fun x2 h_x2 h=>Rq Y (ZE (ov Y) (ov Y) Zcn h_x2)<|Rq Y (Zk (ov Y) Zde Y Y)<|Rx Y (Zq (row := [_, _, _, _]) 0 Y Zh9 Y tZ_42)<|Rx Y (Zj (ov Y) (ov Y) (Zg Zde Y) Y Y Y (Nat.le_of_ble_eq_true Y) (Zc Y) Y)<|Za<|K5 1 7 90 91 92 Y<|Tr<|Rq Y (Zf (ov Y) Zc2)<|Rq Y (Zb (ov Y) tS3 Y)<|R2 X0 Y<|Rm Y<|Rq Y (.guarded ((decide (60 < p.Step)) == false) Y Y Y Y fun h => Zp (ov Y) Y Y Zf6)<|Rq Y (.guarded ((decide (60 < p.Step)) == false) Y Y Y Y fun h => Zm (ow Y h) Y Y Y tS3 Y)<|Rq Y (.guarded ((decide (60 < p.Step)) == false) Y Y Y Y fun h => Zf (ov Y) Zc6)<|Rq Y (.guarded ((decide (60 < p.Step)) == false) Y Y Y Y fun h => Zb (ow Y h) tS3 Y)<|Rq Y (.guarded ((decide (60 < p.Step)) == false) Y Y Y Y fun h => Zis (ow Y h) (ov Y) Y)<|Rq Y (.guarded ((decide (60 < p.Step)) == false) Y Y Y Y fun h => Zf (ov Y) Zc2)<|Rq Y (.guarded ((decide (60 < p.Step)) == false) Y Y Y Y fun h => Zb (ow Y h) tS3 Y)<|Rq Y (.guarded ((decide (60 < p.Step)) == false) Y Y Y Y fun h => Zl0 (ow Y h) (ow Y h) Y)<|Rq Y (.guarded ((decide (60 < p.Step)) == false) Y Y Y Y fun h => ZkS (ow Y h) (ow Y h) Y)<|Rq Y (.guarded ((decide (60 < p.Step)) == false) Y Y Y Y fun h => X0 (ow Y h)<|ov Y)<|Rq Y (XX (ov Y) fun hp=>ow Y<|gF hp)<|Za<|K5 1 90 91 92 110 Y<|If h Y (fun h=>?_) fun h=>?_
        ·
         refine K0<|Tr<|Ra Y<|Za<|?_
         replace h := lx h ▸ ho2
         obtain rfl := rt h
         exact Zi (Zn Y (.one<|rb Y))
        ·
         exact Ze<|K4 1 90 91 92 Y<|Zt<|R2 ZT Y<|Rm Y<|Za<|⟨_, h, ES []⟩
       ·
        refine Zz<|?_
        replace h := lx h ▸ ho2
        exact ⟨(), h, ES []⟩
      ·
       replace h := elr h
       replace h := t0i h
       refine Tr<|Ra Y<|Za<|?_
       obtain rfl := rt h
       exact Zi (Zn Y (.one<|rb Y))
theorem Zcj {s : List Str} {v : Str} {r : Int} (h : Z2 s v = some r) :
 CSpec Tryd.prog gl0 89 [.sl 9 (List.map R9 s), .str v] (.int .i64 r) := by
 unfold Z2 at h
 replace h := Z0 h
 refine So Tryd.func89 Y fun w0 A=>Tr<|Ra Y<|Za<|J0 (fun j => (.inr j)) ⟨[], []⟩ h (fun h=>?_) fun h=>?_
 ·
  refine K2 0 1 Y<|Tr<|Rm Y<|Rl tZ_9 Zdd Y<|Rm Y<|Za<|Zd<|?_
  obtain ⟨r1, hl1, ho1⟩ := Qt h
  refine L1 (fun i=>⟨[(0, .sl 9 (List.map R9 s)), (1, .str v), (7, .int .i64 (s.length : Int)), (8, .int .i64 i)], []⟩) hl1 (ES []) fun n1 i h=>?_
  unfold ZD at h
  refine Tr<|R2 ZH Y<|Za<|Zh<|If h Y (fun h=>?_) fun h=>?_
  ·
   refine Ze<|Zh<|Zd<|K4 0 1 7 8 Y<|Tr<|Rm Y<|Ra Y<|Za<|K5 0 1 5 7 8 Y<|Tr<|Rm Y<|Rm Y<|Rm Y<|bE h fun x h_x h=>Rq Y (ZE (ov Y) (ov Y) Zdd h_x)<|Rq Y (Zb (ov Y) tS9 Y)<|R2 Zfx Y<|Za<|K6 0 1 5 7 8 16 Y<|If h Y (fun h=>?_) fun h=>?_
   ·
    refine K1 5 Y<|Tr<|Rm Y<|Ra Y<|Za<|?_
    replace h := lx h ▸ ho1
    obtain rfl := rt h
    exact Zi (Zn Y (.one<|rb Y))
   ·
    exact Ze<|K4 0 1 7 8 Y<|Zt<|R2 ZT Y<|Rm Y<|Za<|⟨_, h, ES []⟩
  ·
   refine Zz<|?_
   replace h := lx h ▸ ho1
   exact ⟨(), h, ES []⟩
 ·
  replace h := elr h
  replace h := t0i h
  refine Tr<|Ra Y<|Za<|?_
  obtain rfl := rt h
  exact Zi (Zn Y (.one<|rb Y))
theorem Zbe {s : List Str} {v : Str} {r : Bool} (h : ZL s v = some r) :
 CSpec Tryd.prog gl0 85 [.sl 9 (List.map R9 s), .str v] (.bool r) := by
 unfold ZL at h
 replace h := Z0 h
 refine So Tryd.func85 Y fun w0 A=>Tr<|Ra Y<|Za<|Tr<|Rm Y<|Rm Y<|bE h fun y h_y h=>Rq Y (Zl (Zcj h_y)<|.cons (ov Y) (.b Y)<|.cons (ov Y) (.b Y) .nil)<|R2 ZbG Y<|Ra Y<|Za<|?_
 obtain rfl := rt h
 exact Zi (Zn Y (.one<|rb Y))
theorem Zez {p : api_Param} {r : Int} (h : QL p = some r) :
 CSpec Tryd.prog gl0 67 [.agg [.str p.Name, .int .i64 p.Kind, .sl 42 (List.map R42 p.Parts), .int .i64 p.First, .int .i64 p.Every, .int .i64 p.Times, .int .i64 p.Step, .sl 9 (List.map R9 p.Names)]] (.int .i64 r) := by
 unfold QL at h
 replace h := Z0 h
 refine So Tryd.func67 Y fun w0 A=>Tr<|Rq Y (Qa (cva<|ov Y) Y tZ_46 Y)<|Ra Y<|Za<|K1 1 Y<|Tr<|Rq Y (Zk (ov Y) Q5 Y Y)<|bE h fun y h_y h=>Rq Y (Zl (Zah h_y)<|.cons (ov Y) (.aggB Y) .nil)<|Ra Y<|Za<|Zh<|K2 1 3 Y<|Tr<|Rq Y (Zf (ov Y) ZaY)<|Rq Y (Zb (ov Y) tS3 Y)<|R2 Qz Y<|Rm Y<|Rq Y (.guarded ((decide (p.Kind = 4)) == true) Y Y Y Y fun h => Zr<|ov Y)<|bE h fun q h_q h=>Rq Y (.guarded ((decide (p.Kind = 4)) == true) Y Y Y Y fun h => Je (ow Y h) (ov Y)<|gdT h_q h)<|Rq Y (.guarded ((decide (p.Kind = 4)) == true) Y Y Y Y fun h => QZ (ow Y h)<|ov Y)<|Rq Y (JW (ov Y) fun hp=>ow Y<|gT hp)<|Rm Y<|Rq Y (.guarded (((decide (p.Kind = 4)) && (!decide (q = 0))) == false) Y Y Y Y fun h => Zf (ov Y) ZaY)<|Rq Y (.guarded (((decide (p.Kind = 4)) && (!decide (q = 0))) == false) Y Y Y Y fun h => Zb (ow Y h) tS3 Y)<|Rq Y (.guarded (((decide (p.Kind = 4)) && (!decide (q = 0))) == false) Y Y Y Y fun h => Qz (ow Y h)<|ov Y)<|Rq Y (.guarded (((decide (p.Kind = 4)) && (!decide (q = 0))) == false) Y Y Y Y fun h => Zr<|ow Y h)<|Rq Y (.guarded2 ((((decide (p.Kind = 4)) && (!decide (q = 0))) == false) && ((decide (p.Kind = 5)) == true)) Y Y Y Y fun h => Zr<|ov Y)<|Rq Y (.guarded2 ((((decide (p.Kind = 4)) && (!decide (q = 0))) == false) && ((decide (p.Kind = 5)) == true)) Y Y Y Y fun h => QZ (ow Y h)<|ov Y)<|Rq Y (.guarded (((decide (p.Kind = 4)) && (!decide (q = 0))) == false) Y Y Y Y fun h => JW (ow Y h) fun hp=>ow Y<|gA h<|gT hp)<|Rq Y (XX (ov Y) fun hp=>ow Y<|gF hp)<|Rm Y<|Rq Y (.guarded ((((decide (p.Kind = 4)) && (!decide (q = 0))) || ((decide (p.Kind = 5)) && (!decide (y = 1)))) == false) Y Y Y Y fun h => Zf (ov Y) ZaY)<|Rq Y (.guarded ((((decide (p.Kind = 4)) && (!decide (q = 0))) || ((decide (p.Kind = 5)) && (!decide (y = 1)))) == false) Y Y Y Y fun h => Zb (ow Y h) tS3 Y)<|Rq Y (.guarded ((((decide (p.Kind = 4)) && (!decide (q = 0))) || ((decide (p.Kind = 5)) && (!decide (y = 1)))) == false) Y Y Y Y fun h => Qz (ow Y h)<|ov Y)<|Rq Y (.guarded ((((decide (p.Kind = 4)) && (!decide (q = 0))) || ((decide (p.Kind = 5)) && (!decide (y = 1)))) == false) Y Y Y Y fun h => Zr<|ow Y h)<|Rq Y (.guarded2 (((((decide (p.Kind = 4)) && (!decide (q = 0))) || ((decide (p.Kind = 5)) && (!decide (y = 1)))) == false) && ((decide (p.Kind = 2)) == false)) Y Y Y Y fun h => Zf (ov Y) ZaY)<|Rq Y (.guarded2 (((((decide (p.Kind = 4)) && (!decide (q = 0))) || ((decide (p.Kind = 5)) && (!decide (y = 1)))) == false) && ((decide (p.Kind = 2)) == false)) Y Y Y Y fun h => Zb (ow Y h) tS3 Y)<|Rq Y (.guarded2 (((((decide (p.Kind = 4)) && (!decide (q = 0))) || ((decide (p.Kind = 5)) && (!decide (y = 1)))) == false) && ((decide (p.Kind = 2)) == false)) Y Y Y Y fun h => Qz (ow Y h)<|ov Y)<|Rq Y (.guarded ((((decide (p.Kind = 4)) && (!decide (q = 0))) || ((decide (p.Kind = 5)) && (!decide (y = 1)))) == false) Y Y Y Y fun h => XX (ow Y h) fun hp=>ow Y<|gA h<|gF hp)<|Rq Y (.guarded ((((decide (p.Kind = 4)) && (!decide (q = 0))) || ((decide (p.Kind = 5)) && (!decide (y = 1)))) == false) Y Y Y Y fun h => Zr<|ow Y h)<|Rq Y (.guarded2 (((((decide (p.Kind = 4)) && (!decide (q = 0))) || ((decide (p.Kind = 5)) && (!decide (y = 1)))) == false) && (((decide (p.Kind = 2)) || (decide (p.Kind = 3))) == true)) Y Y Y Y fun h => Zr<|ov Y)<|Rq Y (.guarded2 (((((decide (p.Kind = 4)) && (!decide (q = 0))) || ((decide (p.Kind = 5)) && (!decide (y = 1)))) == false) && (((decide (p.Kind = 2)) || (decide (p.Kind = 3))) == true)) Y Y Y Y fun h => Qz (ow Y h)<|ov Y)<|Rq Y (.guarded ((((decide (p.Kind = 4)) && (!decide (q = 0))) || ((decide (p.Kind = 5)) && (!decide (y = 1)))) == false) Y Y Y Y fun h => JW (ow Y h) fun hp=>ow Y<|gA h<|gT hp)<|Rq Y (XX (ov Y) fun hp=>ow Y<|gF hp)<|Za<|K3 1 3 38 Y<|If h Y (fun h=>?_) fun h=>?_
 ·
  refine K0<|Tr<|Ra Y<|Za<|?_
  obtain rfl := rt h
  exact Zi (Zn Y (.one<|rb Y))
 ·
  refine Ze<|Zh<|K2 1 3 Y<|Tr<|Rq Y (Zf (ov Y) ZaY)<|Rq Y (Zb (ov Y) tS3 Y)<|R2 QZ Y<|Za<|K3 1 3 41 Y<|If h Y (fun h=>?_) fun h=>?_
  ·
   refine Zh<|K1 1 Y<|Tr<|Rq Y (Zf (ov Y) Zbr)<|Rq Y (Zb (ov Y) ZfZ Y)<|Rl tZ_9 Zdd Y<|R2 X0 Y<|Za<|K1 45 Y<|If h Y (fun h=>?_) fun h=>?_
   ·
    refine K0<|Tr<|Ra Y<|Za<|?_
    obtain rfl := rt h
    exact Zi (Zn Y (.one<|rb Y))
   ·
    refine Ze<|K0<|Tr<|Ra Y<|Za<|?_
    obtain rfl := rt h
    exact Zi (Zn Y (.one<|rb Y))
  ·
   refine Ze<|Zh<|Zd<|K2 1 3 Y<|Tr<|Rq Y (Zf (ov Y) Zbr)<|Rq Y (Zb (ov Y) ZfZ Y)<|Rl tZ_9 Zdd Y<|R2 Qz Y<|Ra Y<|Za<|K3 1 3 46 Y<|If h Y (fun h=>?_) fun h=>?_
   ·
    refine K0<|Tr<|Ra Y<|Za<|?_
    obtain rfl := rt h
    exact Zi (Zn Y (.one<|rb Y))
   ·
    refine K2 1 3 Y<|Td md0<|Dq 0 Y (Zf (ov Y) Zbr)<|Dq 1 Y (Zb (ov Y) ZfZ Y)<|Dq 2 Y (Zd7 (X8 (ov Y) tZ_9) Zdd<|ZbB _ _)<|D2 3 X0 Y<|D1 4 Zr Y<|Dq 5 Y (.guarded ((decide (64 < (p.Names.length : Int))) == false) Y Y Y Y fun h => Zf (ov Y) Zbr)<|Dq 6 Y (.guarded ((decide (64 < (p.Names.length : Int))) == false) Y Y Y Y fun h => Zb (ow Y h) ZfZ Y)<|Dq 7 Y (.guarded ((decide (64 < (p.Names.length : Int))) == false) Y Y Y Y fun h => Zd7 (X8 (ow Y h) tZ_9) Zdd<|ZbB _ _)<|Dq 8 Y (.guarded ((decide (64 < (p.Names.length : Int))) == false) Y Y Y Y fun h => Zr<|ov Y)<|bE h fun q2 h_q2 h=>Dq 9 Y (.guarded ((decide (64 < (p.Names.length : Int))) == false) Y Y Y Y fun h => Jb (ov Y) (ow Y h)<|gdT h_q2 h)<|Dq 10 Y (.guarded ((decide (64 < (p.Names.length : Int))) == false) Y Y Y Y fun h => X0 (ow Y h)<|ow Y h)<|Dq 11 Y (XX (ov Y) fun hp=>ow Y<|gF hp)<|D1 12 Qe Y<|Dd<|K2 1 51 Y<|If h Y (fun h=>?_) fun h=>?_
    ·
     refine K0<|Tr<|Ra Y<|Za<|?_
     obtain rfl := rt h
     exact Zi (Zn Y (.one<|rb Y))
    ·
     refine Ze<|J0 (fun j => (.inr j)) ⟨[], []⟩ h (fun h=>?_) fun h=>?_
     ·
      refine K1 1 Y<|Tr<|Rq Y (Zf (ov Y) Zbr)<|Rq Y (Zb (ov Y) ZfZ Y)<|Rl tZ_9 Zdd Y<|Rm Y<|Za<|Zd<|?_
      obtain ⟨r1, hl1, ho1⟩ := Qt h
      refine L1 (fun i=>⟨[(1, .rp [.str p.Name, .int .i64 p.Kind, .sl 42 (List.map R42 p.Parts), .int .i64 p.First, .int .i64 p.Every, .int .i64 p.Times, .int .i64 p.Step, .sl 9 (List.map R9 p.Names)] 0), (65, .sl 9 (List.map R9 p.Names)), (66, .int .i64 (p.Names.length : Int)), (67, .int .i64 i)], []⟩) hl1 (ES []) fun n1 i h=>?_
      unfold Qj at h
      refine Tr<|R2 ZH Y<|Za<|Zh<|If h Y (fun h=>?_) fun h=>?_
      ·
       refine Ze<|Zh<|Zd<|K4 1 65 66 67 Y<|Tr<|Rm Y<|bE h fun x h_x h=>Rq Y (ZE (ov Y) (ov Y) Zdd h_x)<|Rq Y (Zb (ov Y) tS9 Y)<|Ra Y<|Ra Y<|Za<|Zh<|K6 1 4 5 65 66 67 Y<|Tr<|Rm Y<|bE h fun y2 h_y2 h=>Rq Y (Zl (Zdi h_y2)<|.cons (ov Y) (.b Y) .nil)<|R1 X1 Y<|Za<|K7 1 4 5 65 66 67 74 Y<|If h Y (fun h=>?_) fun h=>?_
       ·
        refine K0<|Tr<|Ra Y<|Za<|?_
        replace h := lx h ▸ ho1
        obtain rfl := rt h
        exact Zi (Zn Y (.one<|rb Y))
       ·
        refine Ze<|K6 1 4 5 65 66 67 Y<|Tr<|Rq Y (Zf (ov Y) Zbr)<|Rq Y (Zb (ov Y) ZfZ Y)<|Rm Y<|bE h fun l h_l h=>Rq Y (ZfM (ov Y) Zdd on (oi<|ov Y) h_l)<|Rm Y<|bE h fun y3 h_y3 h=>Rq Y (Zl (Zbe h_y3)<|.cons (ov Y) (.b Y)<|.cons (ov Y) (.b Y) .nil)<|Za<|K5 1 65 66 67 80 Y<|If h Y (fun h=>?_) fun h=>?_
        ·
         refine K0<|Tr<|Ra Y<|Za<|?_
         replace h := lx h ▸ ho1
         obtain rfl := rt h
         exact Zi (Zn Y (.one<|rb Y))
        ·
         exact Ze<|K4 1 65 66 67 Y<|Zt<|R2 ZT Y<|Rm Y<|Za<|⟨_, h, ES []⟩
      ·
       refine Zz<|?_
       replace h := lx h ▸ ho1
       exact ⟨(), h, ES []⟩
     ·
      replace h := elr h
      replace h := t0i h
      refine Tr<|Ra Y<|Za<|?_
      obtain rfl := rt h
      exact Zi (Zn Y (.one<|rb Y))
theorem Zal {s : List api_Part} {f : api_Part → Option Bool} {r : Int} {f_f : FuncId} {f_c : List AV} (f_d : f_c.all datB = true) (f_h : ∀ (z0 : api_Part) z, f z0 = some z → CSpec Tryd.prog gl0 f_f ([.agg [.int .i64 z0.Frame, .int .i64 z0.Word, .int .i64 z0.Low, .int .i64 z0.Bits]] ++ f_c) (.bool z)) (h : ZI s f = some r) :
 CSpec Tryd.prog gl0 86 [.sl 42 (List.map R42 s), .fn f_f f_c] (.int .i64 r) := by
 unfold ZI at h
 replace h := Z0 h
 refine So Tryd.func86 Y fun w0 A=>Tr<|Ra Y<|Za<|J0 (fun j => (.inr j)) ⟨[], []⟩ h (fun h=>?_) fun h=>?_
 ·
  refine K2 0 1 Y<|Tr<|Rm Y<|Rl tZ_42 Zcn Y<|Rm Y<|Za<|Zd<|?_
  obtain ⟨r1, hl1, ho1⟩ := Qt h
  refine L1 (fun i=>⟨[(0, .sl 42 (List.map R42 s)), (1, .fn f_f f_c), (7, .int .i64 (s.length : Int)), (8, .int .i64 i)], []⟩) hl1 (ES []<|sd 0 Y Y<|sr 1 Y (rFn<|rld f_d)<|sd 7 Y Y<|sd 8 Y Y sn) fun n1 i h=>?_
  unfold Zx at h
  refine Tr<|R2 ZH Y<|Za<|Zh<|If h Y (fun h=>?_) fun h=>?_
  ·
   refine Ze<|Zh<|Zd<|K4 0 1 7 8 Y<|Tr<|Rm Y<|Ra Y<|Za<|K5 0 1 5 7 8 Y<|Tr<|Rm Y<|Rm Y<|Rm Y<|bE h fun x h_x h=>Rq Y (ZE (ov Y) (ov Y) Zcn h_x)<|Rq Y (Zk (ov Y) Zde Y Y)<|bE h fun y h_y h=>Rq Y (JL (ov Y) f_d (f_h _ _ h_y)<|.cons (ov Y) (.aggB Y) .nil)<|Za<|K6 0 1 5 7 8 16 Y<|If h Y (fun h=>?_) fun h=>?_
   ·
    refine K1 5 Y<|Tr<|Rm Y<|Ra Y<|Za<|?_
    replace h := lx h ▸ ho1
    obtain rfl := rt h
    exact Zi (Zn Y (.one<|rb Y))
   ·
    exact Ze<|K4 0 1 7 8 Y<|Zt<|R2 ZT Y<|Rm Y<|Za<|⟨_, h, ES []<|sd 0 Y Y<|sr 1 Y (rFn<|rld f_d)<|sd 7 Y Y<|sd 8 Y Y sn⟩
  ·
   refine Zz<|?_
   replace h := lx h ▸ ho1
   exact ⟨(), h, ES []⟩
 ·
  replace h := elr h
  replace h := t0i h
  refine Tr<|Ra Y<|Za<|?_
  obtain rfl := rt h
  exact Zi (Zn Y (.one<|rb Y))
theorem JJ {s : List api_Part} {f : api_Part → Option Bool} {r : Bool} {f_f : FuncId} {f_c : List AV} (f_d : f_c.all datB = true) (f_h : ∀ (z0 : api_Part) z, f z0 = some z → CSpec Tryd.prog gl0 f_f ([.agg [.int .i64 z0.Frame, .int .i64 z0.Word, .int .i64 z0.Low, .int .i64 z0.Bits]] ++ f_c) (.bool z)) (h : Zy s f = some r) :
 CSpec Tryd.prog gl0 69 [.sl 42 (List.map R42 s), .fn f_f f_c] (.bool r) := by
 unfold Zy at h
 replace h := Z0 h
 refine So Tryd.func69 Y fun w0 A=>Tr<|Ra Y<|Za<|Tr<|Rm Y<|Rm Y<|bE h fun y h_y h=>Rq Y (Zl (Zal f_d f_h h_y)<|.cons (ov Y) (.b Y)<|.cons (ov Y) (Dat.fnC<|.refl fun x hx => .b<|List.all_eq_true.1 f_d x hx) .nil)<|R2 ZbG Y<|Ra Y<|Za<|?_
 obtain rfl := rt h
 exact Zi (Zn Y (.one<|rb Y))
theorem Zfq {x : api_Part} {c0 : Int} {r : Bool} (h : QO x c0 = some r) :
 CSpec Tryd.prog gl0 70 [.agg [.int .i64 x.Frame, .int .i64 x.Word, .int .i64 x.Low, .int .i64 x.Bits], .rp [.int .i64 c0] 0] (.bool r) := by
 unfold QO at h
 replace h := Z0 h
 refine So Tryd.func70 Y fun w0 A=>Tr<|Rq Y (Qa (cva<|ov Y) Y tZ_42 Y)<|Ra Y<|Za<|K3 1 2 3 Y<|Tr<|Rq Y (Zb (ov Y) tS3 Y)<|Rq Y (Zf (ov Y) ZgA)<|Rq Y (Zb (ov Y) tS3 Y)<|R2 ZT Y<|R2 ZbG Y<|Ra Y<|Za<|?_
 obtain rfl := rt h
 exact Zi (Zn Y (.one<|rb Y))
theorem Zda {p : api_Param} {r : (List Int)} (h : Xk p = some r) :
 CSpec Tryd.prog gl0 33 [.agg [.str p.Name, .int .i64 p.Kind, .sl 42 (List.map R42 p.Parts), .int .i64 p.First, .int .i64 p.Every, .int .i64 p.Times, .int .i64 p.Step, .sl 9 (List.map R9 p.Names)]] (.sl 3 (List.map R3 r)) := by
 unfold Xk at h
 replace h := Z0 h
 refine So Tryd.func33 Y fun w0 A=>Tr<|Rq Y (Qa (cva<|ov Y) Y tZ_46 Y)<|Ra Y<|Za<|K1 1 Y<|Tr<|Ra Y<|Za<|I1 (fun out=>⟨[(3, .own 0 out.length)], [some ⟨3, List.map R3 out⟩]⟩) h (fun h=>?_) fun out h=>?_
 ·
  refine Tr<|Rq Y (Zf (ov Y) Zi8)<|Rq Y (Zb (ov Y) tS3 Y)<|Rx Y (Zq (row := [_]) 0 Y tZ3 Y tZ_3)<|Rx Y (Zj (ov Y) (ov Y) (ZA tS3) Y Y Y (Nat.le_of_ble_eq_true Y) (Zc Y) Y)<|Za<|Zd<|?_
  obtain ⟨r1, hl1, ho1⟩ := Qt h
  refine L2 (fun out2 f=>⟨[(1, .rp [.str p.Name, .int .i64 p.Kind, .sl 42 (List.map R42 p.Parts), .int .i64 p.First, .int .i64 p.Every, .int .i64 p.Times, .int .i64 p.Step, .sl 9 (List.map R9 p.Names)] 0), (3, .own 0 out2.length), (4, .ptr 1 1 0 0)], [some ⟨3, List.map R3 out2⟩, some ⟨3, [[.int .i64 f]]⟩]⟩) hl1 (ES [none, some 0]) fun n1 out2 f h=>?_
  unfold Qd at h
  refine Zh<|Tr<|Rq Y (Zm (ov Y) Y Y Y tS3 Y)<|R2 ZH Y<|Za<|K4 1 3 4 8 Y<|If h Y (fun h=>?_) fun h=>?_
  ·
   refine Ze<|I1 (fun out3=>⟨[(1, .rp [.str p.Name, .int .i64 p.Kind, .sl 42 (List.map R42 p.Parts), .int .i64 p.First, .int .i64 p.Every, .int .i64 p.Times, .int .i64 p.Step, .sl 9 (List.map R9 p.Names)] 0), (3, .own 0 out3.length), (4, .rp [.int .i64 f] 0)], [some ⟨3, List.map R3 out3⟩]⟩) h (fun h=>?_) fun out3 h=>?_
   ·
    refine Zd<|K3 1 3 4 Y<|Tr<|Rq Y (Zf (ov Y) Zbu)<|Rq Y (Zb (ov Y) ZfA Y)<|ZdP (Ent.sel [some 0, none] (sd 1 Y Y<|sr 3 Y (.own (r' := 0) _ Y)<|sr 4 Y (.frp ⟨Y, ⟨_, Y⟩, Y, Y⟩)<|sd 13 Y Y<|sd 14 Y Y sn) (.cons Y (roM D3)<|.row 3 .nil) Y Y)<|Rq Y (QD<|.cons (ov Y) .nil)<|bE h fun y h_y h=>Rq Y (Zl (JJ Y (fun z0 _ hz=>Zfq hz) h_y)<|.cons (ov Y) (.b Y)<|.cons (ov Y) (.fnC<|.cons (.b Y) .nil) .nil)<|R1 X1 Y<|Za<|K4 1 3 4 17 Y<|If h Y (fun h=>?_) fun h=>?_
    ·
     exact K3 1 3 4 Y<|Zt<|Rm Y<|Rq Y (Zb (ov Y) tS3 Y)<|R_q (.sl 3<|List.map R3 ([f] : List Int)) Y (Zeu X3 (.cons (cvs (ov Y)<|Zs Y) Y (.cons (.b Y) .nil) .nil) Y Y)<|bE h fun l h_l h=>Rx Y (Za8 (ov Y) (X8 (ov Y) tZ_3) X3 Y Y Y (fun _=>Zc Y) Y h_l)<|Ra Y<|Za<|⟨_, h, ES [some 0]⟩
    ·
     exact Ze<|⟨_, h, ES [some 0]⟩
   ·
    exact Zh<|Tr<|Rq Y (Zb (ov Y) tS3 Y)<|Za<|Zt<|Rx Y (Zq (row := [_]) 1 Y tZ3 Y tZ_3)<|Rx Y (Zj (ov Y) (ov Y) (ZA tS3) Y Y Y (Nat.le_of_ble_eq_true Y) (Zc Y) Y)<|Za<|K3 1 3 4 Y<|Zt<|Rq Y (Zm (ov Y) Y Y Y tS3 Y)<|Rq Y (Zf (ov Y) Zgm)<|Rq Y (Zb (ov Y) tS3 Y)<|R2 ZT Y<|Rx Y (Zj (ov Y) (ov Y) (ZA tS3) Y Y Y (Nat.le_of_ble_eq_true Y) (Zc Y) Y)<|Za<|⟨_, h, ES [some 0, some 1]⟩
  ·
   refine Zz<|?_
   replace h := lx h ▸ ho1
   exact ⟨_, h, ES [some 0]⟩
 ·
  refine Tr<|Rm Y<|Ra Y<|Za<|?_
  obtain rfl := rt h
  exact Zi (Zn Y (.one<|.tmp Y<|View.ownM Y Y D3))
theorem ZfG {p : api_Param} {x : api_Part} {f : Int} {j : Int} {r : api_Place} (h : Xt p x f j = some r) :
 CSpec Tryd.prog gl0 71 [.agg [.str p.Name, .int .i64 p.Kind, .sl 42 (List.map R42 p.Parts), .int .i64 p.First, .int .i64 p.Every, .int .i64 p.Times, .int .i64 p.Step, .sl 9 (List.map R9 p.Names)], .agg [.int .i64 x.Frame, .int .i64 x.Word, .int .i64 x.Low, .int .i64 x.Bits], .int .i64 f, .int .i64 j] (.agg [.int .i64 r.Frame, .int .i64 r.Word, .int .i64 r.Low, .int .i64 r.Bits]) := by
 unfold Xt at h
 replace h := Z0 h
 refine So Tryd.func71 Y fun w0 A=>Tr<|Rq Y (Qa (cva<|ov Y) Y tZ_46 Y)<|Rq Y (Qa (cva<|ov Y) Y tZ_42 Y)<|Rx Y (Zq (row := [_, _, _, _]) 0 Y Zjz Y tZ_65)<|Za<|K5 2 3 4 5 8 Y<|Tr<|Rm Y<|Rq Y (Zf (ov Y) ZgA)<|Rq Y (Zb (ov Y) tS3 Y)<|R2 ZT Y<|Rq Y (Zf (ov Y) Zf6)<|Rq Y (Zb (ov Y) tS3 Y)<|Rm Y<|Rq Y (Zf (ov Y) Zc2)<|Rq Y (Zb (ov Y) tS3 Y)<|R2 ZhK Y<|R2 ZT Y<|Rq Y (Zf (ov Y) Zgd)<|Rq Y (Zb (ov Y) tS3 Y)<|Rq Y (Zf (ov Y) Zgi)<|Rq Y (Zb (ov Y) tS3 Y)<|Rq Y (JP (ys := [_, _, _, _]) ZnR ZnN Zjz (.cons (cvs (ov Y)<|Zs Y)<|.cons (cvs (ov Y)<|Zs Y)<|.cons (cvs (ov Y)<|Zs Y)<|.cons (cvs (ov Y)<|Zs Y) .nil) Y)<|Rx Y (Zj (ov Y) (ov Y) (Zg ZgE Y) Y Y Y (Nat.le_of_ble_eq_true Y) (Zc Y) Y)<|Za<|?_
 obtain rfl := rt h
 exact Zi (Zn Y (.one<|.agg Y Y Y Y ZgE Y Y<|pwB Y))
theorem Zbz {number : Int} {p : api_Param} {r : (List api_Cell)} (h : Qx number p = some r) :
 CSpec Tryd.prog gl0 34 [.int .i64 number, .agg [.str p.Name, .int .i64 p.Kind, .sl 42 (List.map R42 p.Parts), .int .i64 p.First, .int .i64 p.Every, .int .i64 p.Times, .int .i64 p.Step, .sl 9 (List.map R9 p.Names)]] (.sl 58 (List.map R58 r)) := by
 unfold Qx at h
 replace h := Z0 h
 refine So Tryd.func34 Y fun w0 A=>Tr<|Rq Y (Qa (cva<|ov Y) Y tZ_46 Y)<|Ra Y<|Za<|K2 0 3 Y<|Tr<|Ra Y<|Za<|I1 (fun out=>⟨[(5, .own 0 out.length)], [some ⟨58, List.map R58 out⟩]⟩) h (fun h=>?_) fun out h=>?_
 ·
  refine Tr<|Rq Y (Zk (ov Y) Q5 Y Y)<|bE h fun y h_y h=>Rq Y (Zl (Zda h_y)<|.cons (ov Y) (.aggB Y) .nil)<|Rl tZ_3 X3 Y<|Rm Y<|Za<|Zd<|?_
  obtain ⟨r1, hl1, ho1⟩ := Qt h
  refine L2 (fun out2 i=>⟨[(0, .int .i64 number), (3, .rp [.str p.Name, .int .i64 p.Kind, .sl 42 (List.map R42 p.Parts), .int .i64 p.First, .int .i64 p.Every, .int .i64 p.Times, .int .i64 p.Step, .sl 9 (List.map R9 p.Names)] 0), (5, .own 0 out2.length), (13, .sl 3 (List.map R3 y)), (14, .int .i64 (y.length : Int)), (15, .int .i64 i)], [some ⟨58, List.map R58 out2⟩]⟩) hl1 (ES [none]) fun n1 out2 i h=>?_
  unfold Qs at h
  refine Tr<|R2 ZH Y<|Za<|Zh<|If h Y (fun h=>?_) fun h=>?_
  ·
   refine Ze<|I1 (fun out3=>⟨[(0, .int .i64 number), (3, .rp [.str p.Name, .int .i64 p.Kind, .sl 42 (List.map R42 p.Parts), .int .i64 p.First, .int .i64 p.Every, .int .i64 p.Times, .int .i64 p.Step, .sl 9 (List.map R9 p.Names)] 0), (5, .own 0 out3.length), (13, .sl 3 (List.map R3 y)), (14, .int .i64 (y.length : Int)), (15, .int .i64 i)], [some ⟨58, List.map R58 out3⟩]⟩) h (fun h=>?_) fun out3 h=>?_
   ·
    refine Zd<|K6 0 3 5 13 14 15 Y<|Tr<|bE h fun x h_x h=>Rq Y (ZE (ov Y) (ov Y) X3 h_x)<|Rq Y (Zb (ov Y) tS3 Y)<|Ra Y<|Za<|K7 0 3 5 7 13 14 15 Y<|Tr<|Rq Y (Zf (ov Y) Zc6)<|Rq Y (Zb (ov Y) tS3 Y)<|Rm Y<|Za<|Zd<|?_
    obtain ⟨r2, hl2, ho2⟩ := Qt h
    refine L2 (fun out4 i2=>⟨[(0, .int .i64 number), (3, .rp [.str p.Name, .int .i64 p.Kind, .sl 42 (List.map R42 p.Parts), .int .i64 p.First, .int .i64 p.Every, .int .i64 p.Times, .int .i64 p.Step, .sl 9 (List.map R9 p.Names)] 0), (5, .own 0 out4.length), (7, .int .i64 x), (13, .sl 3 (List.map R3 y)), (14, .int .i64 (y.length : Int)), (15, .int .i64 i), (20, .int .i64 p.Times), (21, .int .i64 i2)], [some ⟨58, List.map R58 out4⟩]⟩) hl2 (ES [some 0]) fun n2 out4 i2 h=>?_
    unfold XS at h
    refine Tr<|R2 ZH Y<|Za<|Zh<|If h Y (fun h=>?_) fun h=>?_
    ·
     refine Ze<|Zh<|Zd<|K9 0 3 5 7 13 14 15 20 21 Y<|Tr<|Rm Y<|Ra Y<|Za<|K10 0 3 5 7 8 13 14 15 20 21 Y<|Tr<|Rm Y<|Rm Y<|Rq Y (ZmE (ov Y) Y Y ZbZ)<|Rm Y<|Rq Y (JP (ys := [_, _, _, _]) Zny ZnB ZhG (.cons (cvs (ov Y)<|Zs Y)<|.cons (cvs (ov Y)<|Zs Y)<|.cons (cvs (ov Y)<|Zs Y) .nil) Y)<|Rx Y (Zq (row := [_, _, _, _]) 1 Y ZhG Y tZ_58)<|Rx Y (Zj (ov Y) (ov Y) (Zg ZdO Y) Y Y Y (Nat.le_of_ble_eq_true Y) (Zc Y) Y)<|Za<|I1 (fun Places=>⟨[(0, .int .i64 number), (3, .rp [.str p.Name, .int .i64 p.Kind, .sl 42 (List.map R42 p.Parts), .int .i64 p.First, .int .i64 p.Every, .int .i64 p.Times, .int .i64 p.Step, .sl 9 (List.map R9 p.Names)] 0), (5, .own 0 out4.length), (7, .int .i64 x), (9, .ptr 1 1 0 0), (13, .sl 3 (List.map R3 y)), (14, .int .i64 (y.length : Int)), (15, .int .i64 i), (20, .int .i64 p.Times), (21, .int .i64 i2)], [some ⟨58, List.map R58 out4⟩, some ⟨58, [[.int .i64 number, .int .i64 (out4.length : Int), .int .i64 x, .own 2 Places.length]]⟩, some ⟨65, List.map R65 Places⟩]⟩) h (fun h=>?_) fun Places h=>?_
     ·
      refine K11 0 3 5 7 8 9 13 14 15 20 21 Y<|Tr<|Rq Y (Zf (ov Y) Zbu)<|Rq Y (Zb (ov Y) ZfA Y)<|Rl tZ_42 Zcn Y<|Rm Y<|Za<|Zd<|?_
      obtain ⟨r3, hl3, ho3⟩ := Qt h
      refine L2 (fun Places2 i3=>⟨[(0, .int .i64 number), (3, .rp [.str p.Name, .int .i64 p.Kind, .sl 42 (List.map R42 p.Parts), .int .i64 p.First, .int .i64 p.Every, .int .i64 p.Times, .int .i64 p.Step, .sl 9 (List.map R9 p.Names)] 0), (5, .own 0 out4.length), (7, .int .i64 x), (8, .int .i64 i2), (9, .ptr 1 1 0 0), (13, .sl 3 (List.map R3 y)), (14, .int .i64 (y.length : Int)), (15, .int .i64 i), (20, .int .i64 p.Times), (21, .int .i64 i2), (30, .sl 42 (List.map R42 p.Parts)), (31, .int .i64 (p.Parts.length : Int)), (32, .int .i64 i3)], [some ⟨58, List.map R58 out4⟩, some ⟨58, [[.int .i64 number, .int .i64 (out4.length : Int), .int .i64 x, .own 2 Places2.length]]⟩, some ⟨65, List.map R65 Places2⟩]⟩) hl3 (ES [some 0, some 1, none]) fun n3 Places2 i3 h=>?_
      unfold Z5 at h
      refine Tr<|R2 ZH Y<|Za<|Zh<|If h Y (fun h=>?_) fun h=>?_
      ·
       exact Ze<|Zh<|Zd<|XJ (kc 0 Y<|kc 3 Y<|kc 5 Y<|kc 7 Y<|kc 8 Y<|kc 9 Y<|kc 13 Y<|kc 14 Y<|kc 15 Y<|kc 20 Y<|kc 21 Y<|kc 30 Y<|kc 31 Y<|kc 32 Y kn) Y<|Tr<|bE h fun x2 h_x2 h=>Rq Y (ZE (ov Y) (ov Y) Zcn h_x2)<|Rq Y (Zk (ov Y) Zde Y Y)<|Rx Y (Zq (row := [_, _, _, _]) 3 Y Zh9 Y tZ_42)<|Rx Y (Zj (ov Y) (ov Y) (Zg Zde Y) Y Y Y (Nat.le_of_ble_eq_true Y) (Zc Y) Y)<|Za<|XJ (kc 0 Y<|kc 3 Y<|kc 5 Y<|kc 7 Y<|kc 8 Y<|kc 9 Y<|kc 11 Y<|kc 13 Y<|kc 14 Y<|kc 15 Y<|kc 20 Y<|kc 21 Y<|kc 30 Y<|kc 31 Y<|kc 32 Y kn) Y<|ZdZ (cw := md0) (by kernel_rfl)<|Dq 0 Y (Zp (ov Y) Y Y Zc4)<|Dq 1 Y (Zm (ov Y) Y Y Y Zh0 Y)<|Dq 2 Y (Zk (ov Y) Q5 Y Y)<|Dq 3 Y (ZC (ov Y) Y Y Y Zde Y Y)<|D1 4 Zr Y<|D1 5 Zr Y<|bE h fun y2 h_y2 h=>Dq 6 Y (Zl (ZfG h_y2)<|.cons (ov Y) (.aggB Y)<|.cons (ov Y) (.aggB Y)<|.cons (ov Y) (.b Y)<|.cons (ov Y) (.b Y) .nil)<|Zm0 7 (.sl 65<|List.map R65 ([y2] : List api_Place)) Y (by kernel_rfl) Y Y (Zeu Zf1 (.cons (cva<|ov Y) Y (pwD Y) .nil) Y Y)<|bE h fun l h_l h=>Do 8 Y (Za8 (ov Y) (X8 (ov Y) tZ_65) Zf1 Y Y Y (fun _=>Zc Y) Y h_l)<|Dq 9 Y (Zp (ov Y) Y Y Zc4)<|Do 10 Y (Zj (ov Y) (ov Y) (ZA Zh0) Y Y Y (Nat.le_of_ble_eq_true Y) (Zc Y) Y)<|Dd<|XJ (kc 0 Y<|kc 3 Y<|kc 5 Y<|kc 7 Y<|kc 8 Y<|kc 9 Y<|kc 13 Y<|kc 14 Y<|kc 15 Y<|kc 20 Y<|kc 21 Y<|kc 30 Y<|kc 31 Y<|kc 32 Y kn) Y<|Zt<|R2 ZT Y<|Rm Y<|Za<|⟨_, h, ES [some 0, some 1, some 2]⟩
      ·
       refine Zz<|?_
       replace h := lx h ▸ ho3
       exact ⟨_, h, ES [some 0, some 1, some 2]⟩
     ·
      exact Zt<|Rm Y<|Rq Y (ZC (ov Y) Y Y Y ZdO Y Y)<|ZdP (Ent.sel [some 0, some 1, none] (sd 0 Y Y<|sd 3 Y Y<|sr 5 Y (.own (r' := 0) _ Y)<|sd 7 Y Y<|sr 9 Y (.ptr (r' := 1) _ _ _ Y)<|sd 13 Y Y<|sd 14 Y Y<|sd 15 Y Y<|sd 20 Y Y<|sd 21 Y Y<|sr 47 Y (.own (r' := 0) _ Y)<|sr 48 Y (X2<|rlc (.dat Y)<|rlc (.dat Y)<|rlc (.dat Y)<|rlc (Zm9 Y Y Y D65) rln) sn) (.cons Y (roM D58)<|.cons Y (ro1 (by exact tZ_58.symm)<|rlc (.dat Y)<|rlc (.dat Y)<|rlc (.dat Y)<|rlc (Zm9 Y Y Y D65) rln)<|.row 65 .nil) Y Y)<|R_q (.sl 58<|List.map R58 ([(api_Cell.mk number (out4.length : Int) x Places)] : List api_Cell)) Y (Zeu ZbZ (.cons (cva<|ov Y) Y (pwD Y) .nil) Y Y)<|bE h fun l2 h_l2 h=>Rx Y (Za8 (ov Y) (X8 (ov Y) tZ_58) ZbZ Y Y Y (fun _=>Zc Y) Y h_l2)<|Ra Y<|Za<|K9 0 3 5 7 13 14 15 20 21 Y<|Zt<|R2 ZT Y<|Rm Y<|Za<|⟨_, h, ES [some 0]⟩
    ·
     refine Zz<|?_
     replace h := lx h ▸ ho2
     exact ⟨_, h, ES [some 0]⟩
   ·
    exact Zt<|R2 ZT Y<|Rm Y<|Za<|⟨_, h, ES [some 0]⟩
  ·
   refine Zz<|?_
   replace h := lx h ▸ ho1
   exact ⟨_, h, ES [some 0]⟩
 ·
  refine Tr<|Rm Y<|Ra Y<|Za<|?_
  obtain rfl := rt h
  exact Zi (Zn Y (.one<|.tmp Y<|View.ownM Y Y D58))
theorem Zgs {x : api_Place} {r : (List layout_bit)} (h : XU x = some r) :
 CSpec Tryd.prog gl0 72 [.agg [.int .i64 x.Frame, .int .i64 x.Word, .int .i64 x.Low, .int .i64 x.Bits]] (.sl 106 (List.map R106 r)) := by
 unfold XU at h
 replace h := Z0 h
 refine So Tryd.func72 Y fun w0 A=>Tr<|Rq Y (Qa (cva<|ov Y) Y tZ_65 Y)<|Ra Y<|Za<|K1 1 Y<|Tr<|Ra Y<|Za<|I1 (fun out=>⟨[(3, .own 0 out.length)], [some ⟨106, List.map R106 out⟩]⟩) h (fun h=>?_) fun out h=>?_
 ·
  refine Tr<|Rq Y (Zf (ov Y) Zea)<|Rq Y (Zb (ov Y) tS3 Y)<|Rm Y<|Za<|Zd<|?_
  obtain ⟨r1, hl1, ho1⟩ := Qt h
  refine L2 (fun out2 i=>⟨[(1, .rp [.int .i64 x.Frame, .int .i64 x.Word, .int .i64 x.Low, .int .i64 x.Bits] 0), (3, .own 0 out2.length), (6, .int .i64 x.Bits), (7, .int .i64 i)], [some ⟨106, List.map R106 out2⟩]⟩) hl1 (ES [none]) fun n1 out2 i h=>?_
  unfold QT at h
  refine Tr<|R2 ZH Y<|Za<|Zh<|If h Y (fun h=>?_) fun h=>?_
  ·
   exact Ze<|Zh<|Zd<|K4 1 3 6 7 Y<|Tr<|Rm Y<|Ra Y<|Za<|K5 1 3 4 6 7 Y<|Zt<|Rm Y<|Rq Y (Zf (ov Y) ZhA)<|Rq Y (Zb (ov Y) tS3 Y)<|Rq Y (Zf (ov Y) Zhb)<|Rq Y (Zb (ov Y) tS3 Y)<|Rq Y (Zf (ov Y) Zgp)<|Rq Y (Zb (ov Y) tS3 Y)<|Rm Y<|R2 ZT Y<|Rq Y (JP (ys := [_, _, _]) Zom Zok ZnH (.cons (cvs (ov Y)<|Zs Y)<|.cons (cvs (ov Y)<|Zs Y)<|.cons (cvs (ov Y)<|Zs Y) .nil) Y)<|R_q (.sl 106<|List.map R106 ([(layout_bit.mk x.Frame x.Word (i64 (x.Low + i)))] : List layout_bit)) Y (Zeu Zks (.cons (cva<|ov Y) Y (pwD Y) .nil) Y Y)<|bE h fun l h_l h=>Rx Y (Za8 (ov Y) (X8 (ov Y) tZ_106) Zks Y Y Y (fun _=>Zc Y) Y h_l)<|Ra Y<|Za<|K4 1 3 6 7 Y<|Zt<|R2 ZT Y<|Rm Y<|Za<|⟨_, h, ES [some 0]⟩
  ·
   refine Zz<|?_
   replace h := lx h ▸ ho1
   exact ⟨_, h, ES [some 0]⟩
 ·
  refine Tr<|Rm Y<|Ra Y<|Za<|?_
  obtain rfl := rt h
  exact Zi (Zn Y (.one<|.tmp Y<|View.ownM Y Y D106))
theorem ZdY {taken : List (layout_bit × Int)} {owner : Int} {l : List api_Place} {r : Bool × (List (layout_bit × Int))} (h : Jc taken owner l = some r) :
 GSpec Tryd.prog gl0 35 [.mref 0 1, .int .i64 owner, .sl 65 (List.map R65 l)] [some ⟨83, [[.mcon (List.map (QS Xn FV3) taken)]]⟩] (.bool r.1) [some ⟨83, [[.mcon (List.map (QS Xn FV3) r.2)]]⟩] := by
 unfold Jc at h
 replace h := Z0 h
 refine ZfJ (by kernel_rfl) Tryd.func35 Y Y<|?_
 intro w0 A W φ0
 refine Tr<|Ra Y<|Za<|J1 (fun j => (.inr j)) (fun o=>⟨[], [some ⟨83, [[.mcon (List.map (QS Xn FV3) o)]]⟩]⟩) h (fun h=>?_) fun o h=>?_
 ·
  refine K3 0 1 2 Y<|Tr<|Rm Y<|Rl tZ_65 Zf1 Y<|Rm Y<|Za<|Zd<|?_
  obtain ⟨r1, hl1, ho1⟩ := Qt h
  refine L2 (fun o2 i=>⟨[(0, .mref 0 1), (1, .int .i64 owner), (13, .sl 65 (List.map R65 l)), (14, .int .i64 (l.length : Int)), (15, .int .i64 i)], [some ⟨83, [[.mcon (List.map (QS Xn FV3) o2)]]⟩]⟩) hl1 (ES [some 0] (hhp := .cons Y (QK (fk := Xn) (fv := FV3) (m := taken) tZ_83 (fun _=>X2<|rld Y) fun _=>.ren<|.dat Y) .nil)) fun n1 o2 i h=>?_
  unfold QH at h
  refine Tr<|R2 ZH Y<|Za<|Zh<|If h Y (fun h=>?_) fun h=>?_
  ·
   refine Ze<|J1 (fun j => (.inr j)) (fun o3=>⟨[(0, .mref 0 1), (1, .int .i64 owner), (13, .sl 65 (List.map R65 l)), (14, .int .i64 (l.length : Int)), (15, .int .i64 i)], [some ⟨83, [[.mcon (List.map (QS Xn FV3) o3)]]⟩]⟩) h (fun h=>?_) fun o3 h=>?_
   ·
    refine Zd<|K5 0 1 13 14 15 Y<|Tr<|bE h fun x h_x h=>Rq Y (ZE (ov Y) (ov Y) Zf1 h_x)<|Rq Y (Zk (ov Y) ZgE Y Y)<|Rx Y (Zq (row := [_, _, _, _]) 1 Y Zjz Y tZ_65)<|Rx Y (Zj (ov Y) (ov Y) (Zg ZgE Y) Y Y Y (Nat.le_of_ble_eq_true Y) (Zc Y) Y)<|Za<|K6 0 1 8 13 14 15 Y<|Tr<|Rq Y (ZC (ov Y) Y Y Y ZgE Y Y)<|bE h fun y h_y h=>Rq Y (Zl (Zgs h_y)<|.cons (ov Y) (.aggB Y) .nil)<|Rl tZ_106 Zks Y<|Rm Y<|Za<|Zd<|?_
    obtain ⟨r2, hl2, ho2⟩ := Qt h
    refine L2 (fun o4 i2=>⟨[(0, .mref 0 1), (1, .int .i64 owner), (13, .sl 65 (List.map R65 l)), (14, .int .i64 (l.length : Int)), (15, .int .i64 i), (20, .sl 106 (List.map R106 y)), (21, .int .i64 (y.length : Int)), (22, .int .i64 i2)], [some ⟨83, [[.mcon (List.map (QS Xn FV3) o4)]]⟩]⟩) hl2 (ES [some 0] (hhp := .cons Y (QK (fk := Xn) (fv := FV3) (m := o2) tZ_83 (fun _=>X2<|rld Y) fun _=>.ren<|.dat Y) .nil)) fun n2 o4 i2 h=>?_
    unfold QG at h
    refine Tr<|R2 ZH Y<|Za<|Zh<|If h Y (fun h=>?_) fun h=>?_
    ·
     refine Ze<|Zh<|Zd<|K8 0 1 13 14 15 20 21 22 Y<|Tr<|bE h fun x2 h_x2 h=>Rq Y (ZE (ov Y) (ov Y) Zks h_x2)<|Rq Y (Zk (ov Y) Zkt Y Y)<|Rx Y (Zq (row := [_, _, _]) 1 Y ZnH Y tZ_106)<|Rx Y (Zj (ov Y) (ov Y) (Zg Zkt Y) Y Y Y (Nat.le_of_ble_eq_true Y) (Zc Y) Y)<|Za<|Zh<|K9 0 1 10 13 14 15 20 21 22 Y<|Tr<|Rm Y<|Rq Y (ZC (ov Y) Y Y Y Zkt Y Y)<|bE h fun o5 h_o5 h=>Rq Y (ZoZ (m := o4) (fk := Xn) (fv := FV3) (k := x2) (z0 := 0) (ov Y) (ov Y) ZkQ Zmh Y (fun _=>.aggB Y) (Za6 Zpp Y) (fun _ _=>Y) h_o5)<|Rm Y<|Rq Y (ZK (ov Y) Y)<|Rq Y (ZK (ov Y) Y)<|Ra Y<|Ra Y<|Za<|K10 0 1 10 12 13 14 15 20 21 22 Y<|Tr<|Rm Y<|Za<|K10 0 1 10 13 14 15 20 21 22 32 Y<|If h Y (fun h=>?_) fun h=>?_
     ·
      refine K0<|Tr<|Ra Y<|Za<|?_
      replace h := lx h ▸ ho2
      replace h := lx h ▸ ho1
      obtain rfl := rt h
      exact Zi<|ZmV [some 0] Y (.cons (.tmp Y) .nil) (.cons Y (QK (fk := Xn) (fv := FV3) (m := o4) tZ_83 (fun _=>X2<|rld Y) fun _=>.ren<|.dat Y) .nil) Y Y<|.dat Y
     ·
      exact Ze<|K9 0 1 10 13 14 15 20 21 22 Y<|Zt<|Rm Y<|Rq Y (ZC (ov Y) Y Y Y Zkt Y Y)<|Rm Y<|Rx Y (ZhV (m := o4) (fk := Xn) (fv := FV3) (k := x2) (v := owner) (ov Y) (ov Y) (ov Y) ZkQ Zmh Y fun _=>.aggB Y)<|Za<|K8 0 1 13 14 15 20 21 22 Y<|Zt<|R2 ZT Y<|Rm Y<|Za<|⟨_, h, ES [some 0] (hhp := .cons Y (QK (fk := Xn) (fv := FV3) (m := (ZeO kq_layout_bit o4 x2 owner)) tZ_83 (fun _=>X2<|rld Y) fun _=>.ren<|.dat Y) .nil)⟩
    ·
     refine Zz<|?_
     replace h := lx h ▸ ho2
     exact ⟨_, h, ES [some 0] (hhp := .cons Y (QK (fk := Xn) (fv := FV3) (m := o4) tZ_83 (fun _=>X2<|rld Y) fun _=>.ren<|.dat Y) .nil)⟩
   ·
    replace h := elr h
    replace h := t1i h
    exact Zt<|R2 ZT Y<|Rm Y<|Za<|⟨_, h, ES [some 0] (hhp := .cons Y (QK (fk := Xn) (fv := FV3) (m := o3) tZ_83 (fun _=>X2<|rld Y) fun _=>.ren<|.dat Y) .nil)⟩
  ·
   refine Zz<|?_
   replace h := lx h ▸ ho1
   exact ⟨_, h, ES [some 0] (hhp := .cons Y (QK (fk := Xn) (fv := FV3) (m := o2) tZ_83 (fun _=>X2<|rld Y) fun _=>.ren<|.dat Y) .nil)⟩
 ·
  replace h := elr h
  replace h := t1i h
  refine Tr<|Ra Y<|Za<|?_
  obtain rfl := rt h
  exact Zi<|ZmV [some 0] Y (.cons (.tmp Y) .nil) (.cons Y (QK (fk := Xn) (fv := FV3) (m := o) tZ_83 (fun _=>X2<|rld Y) fun _=>.ren<|.dat Y) .nil) Y Y<|.dat Y
theorem Zec {p : api_Param} {r : Int} (h : QJ p = some r) :
 CSpec Tryd.prog gl0 30 [.agg [.str p.Name, .int .i64 p.Kind, .sl 42 (List.map R42 p.Parts), .int .i64 p.First, .int .i64 p.Every, .int .i64 p.Times, .int .i64 p.Step, .sl 9 (List.map R9 p.Names)]] (.int .i64 r) := by
 unfold QJ at h
 replace h := Z0 h
 refine So Tryd.func30 Y fun w0 A=>Tr<|Rq Y (Qa (cva<|ov Y) Y tZ_46 Y)<|Ra Y<|Za<|Zh<|K1 1 Y<|Tr<|Rq Y (Zf (ov Y) Zgz)<|Rq Y (Zb (ov Y) tS9 Y)<|bE h fun y h_y h=>Rq Y (Zl (Zdi h_y)<|.cons (ov Y) (.b Y) .nil)<|R1 X1 Y<|Za<|K2 1 12 Y<|If h Y (fun h=>?_) fun h=>?_
 ·
  refine K0<|Tr<|Ra Y<|Za<|?_
  obtain rfl := rt h
  exact Zi (Zn Y (.one<|rb Y))
 ·
  refine Ze<|Zh<|K1 1 Y<|Tr<|Rq Y (Zf (ov Y) ZaY)<|Rq Y (Zb (ov Y) tS3 Y)<|bE h fun y2 h_y2 h=>Rq Y (Zl (Z4 h_y2)<|.cons (ov Y) (.b Y)<|.cons (ov Y) (.b Y)<|.cons (ov Y) (.b Y) .nil)<|R1 X1 Y<|Za<|K2 1 16 Y<|If h Y (fun h=>?_) fun h=>?_
  ·
   refine K0<|Tr<|Ra Y<|Za<|?_
   obtain rfl := rt h
   exact Zi (Zn Y (.one<|rb Y))
  ·
   refine Ze<|Zh<|K1 1 Y<|Tr<|Rq Y (Zk (ov Y) Q5 Y Y)<|bE h fun y3 h_y3 h=>Rq Y (Zl (Zeo h_y3)<|.cons (ov Y) (.aggB Y) .nil)<|Ra Y<|Za<|K2 1 3 Y<|Tr<|Rm Y<|R2 QZ Y<|Za<|K3 1 3 20 Y<|If h Y (fun h=>?_) fun h=>?_
   ·
    refine K1 3 Y<|Tr<|Rm Y<|Ra Y<|Za<|?_
    obtain rfl := rt h
    exact Zi (Zn Y (.one<|rb Y))
   ·
    refine Ze<|Zh<|K1 1 Y<|Tr<|Rq Y (Zk (ov Y) Q5 Y Y)<|bE h fun y4 h_y4 h=>Rq Y (Zl (Zez h_y4)<|.cons (ov Y) (.aggB Y) .nil)<|Ra Y<|Za<|K2 1 4 Y<|Tr<|Rm Y<|R2 QZ Y<|Za<|K3 1 4 25 Y<|If h Y (fun h=>?_) fun h=>?_
    ·
     refine K1 4 Y<|Tr<|Rm Y<|Ra Y<|Za<|?_
     obtain rfl := rt h
     exact Zi (Zn Y (.one<|rb Y))
    ·
     refine Ze<|K1 1 Y<|Tr<|Rx Y (Zdm 0 Y ZkQ)<|Ra Y<|Za<|K2 1 5 Y<|Tr<|Rq Y (Zk (ov Y) Q5 Y Y)<|bE h fun y5 h_y5 h=>Rq Y (Zl (Zbz h_y5)<|.cons (ov Y) (.b Y)<|.cons (ov Y) (.aggB Y) .nil)<|Ra Y<|Za<|J0 (fun j => (.inr j)) ⟨[(6, .sl 58 (List.map R58 y5))], []⟩ h (fun h=>?_) fun h=>?_
     ·
      refine K2 5 6 Y<|Tr<|Rm Y<|Rl tZ_58 ZbZ Y<|Rm Y<|Za<|Zd<|?_
      obtain ⟨r1, hl1, ho1⟩ := Qt h
      refine L2 (fun taken i=>⟨[(5, .mref 0 1), (6, .sl 58 (List.map R58 y5)), (30, .sl 58 (List.map R58 y5)), (31, .int .i64 (y5.length : Int)), (32, .int .i64 i)], [some ⟨83, [[.mcon (List.map (QS Xn FV3) taken)]]⟩]⟩) hl1 (ES [some 0] (hhp := .cons Y (QK (fk := Xn) (fv := FV3) (m := ([] : List (layout_bit × Int))) tZ_83 (fun _=>X2<|rld Y) fun _=>.ren<|.dat Y) .nil)) fun n1 taken i h=>?_
      unfold Z6 at h
      refine Tr<|R2 ZH Y<|Za<|Zh<|If h Y (fun h=>?_) fun h=>?_
      ·
       refine Ze<|Zh<|Zd<|K5 5 6 30 31 32 Y<|Tr<|bE h fun x h_x h=>Rq Y (ZE (ov Y) (ov Y) ZbZ h_x)<|Rq Y (Zk (ov Y) ZdO Y Y)<|Rx Y (Zq (row := [_, _, _, _]) 1 Y ZhG Y tZ_58)<|Rx Y (Zj (ov Y) (ov Y) (Zg ZdO Y) Y Y Y (Nat.le_of_ble_eq_true Y) (Zc Y) Y)<|Za<|K6 5 6 8 30 31 32 Y<|Tr<|Rm Y<|Rq Y (Zp (ov Y) Y Y Zc4)<|Rq Y (Zm (ov Y) Y Y Y Zh0 Y)<|bE h fun y6 h_y6 h=>Rx Y (ZeK [0] (ZdY h_y6) (.cons (ov Y) (.mref _ Y)<|.cons (ov Y) (.dat Y)<|.cons (ov Y) (.dat Y) .nil) (.cons Y (QK (fk := Xn) (fv := FV3) (m := taken) tZ_83 (fun _=>X2<|rld Y) fun _=>.ren<|.dat Y) .nil) Y (.lent 0 (.inl Y) Y (QK (fk := Xn) (fv := FV3) (m := y6.2) tZ_83 (fun _=>X2<|rld Y) fun _=>.ren<|.dat Y)<|.keep Y Y .nil) Y Y<|.dat Y)<|R1 X1 Y<|Za<|K6 5 6 30 31 32 40 Y<|If h Y (fun h=>?_) fun h=>?_
       ·
        refine K0<|Tr<|Ra Y<|Za<|?_
        replace h := lx h ▸ ho1
        obtain rfl := rt h
        exact Zi (Zn Y (.one<|rb Y))
       ·
        exact Ze<|K5 5 6 30 31 32 Y<|Zt<|R2 ZT Y<|Rm Y<|Za<|⟨_, h, ES [some 0] (hhp := .cons Y (QK (fk := Xn) (fv := FV3) (m := y6.2) tZ_83 (fun _=>X2<|rld Y) fun _=>.ren<|.dat Y) .nil)⟩
      ·
       refine Zz<|?_
       replace h := lx h ▸ ho1
       exact ⟨(), h, ES []⟩
     ·
      replace h := elr h
      replace h := t0i h
      refine Zh<|Tr<|Rm Y<|Rl tZ_58 ZbZ Y<|R2 Qz Y<|Za<|K1 44 Y<|If h Y (fun h=>?_) fun h=>?_
      ·
       refine K0<|Tr<|Ra Y<|Za<|?_
       obtain rfl := rt h
       exact Zi (Zn Y (.one<|rb Y))
      ·
       refine Ze<|K0<|Tr<|Ra Y<|Za<|?_
       obtain rfl := rt h
       exact Zi (Zn Y (.one<|rb Y))
theorem JR {s : List api_Param} {f : api_Param → Option Bool} {r : Int} {f_f : FuncId} {f_c : List AV} (f_d : f_c.all datB = true) (f_h : ∀ (z0 : api_Param) z, f z0 = some z → CSpec Tryd.prog gl0 f_f ([.agg [.str z0.Name, .int .i64 z0.Kind, .sl 42 (List.map R42 z0.Parts), .int .i64 z0.First, .int .i64 z0.Every, .int .i64 z0.Times, .int .i64 z0.Step, .sl 9 (List.map R9 z0.Names)]] ++ f_c) (.bool z)) (h : ZF s f = some r) :
 CSpec Tryd.prog gl0 68 [.sl 46 (List.map R46 s), .fn f_f f_c] (.int .i64 r) := by
 unfold ZF at h
 replace h := Z0 h
 refine So Tryd.func68 Y fun w0 A=>Tr<|Ra Y<|Za<|J0 (fun j => (.inr j)) ⟨[], []⟩ h (fun h=>?_) fun h=>?_
 ·
  refine K2 0 1 Y<|Tr<|Rm Y<|Rl tZ_46 Za9 Y<|Rm Y<|Za<|Zd<|?_
  obtain ⟨r1, hl1, ho1⟩ := Qt h
  refine L1 (fun i=>⟨[(0, .sl 46 (List.map R46 s)), (1, .fn f_f f_c), (7, .int .i64 (s.length : Int)), (8, .int .i64 i)], []⟩) hl1 (ES []<|sd 0 Y Y<|sr 1 Y (rFn<|rld f_d)<|sd 7 Y Y<|sd 8 Y Y sn) fun n1 i h=>?_
  unfold Zv at h
  refine Tr<|R2 ZH Y<|Za<|Zh<|If h Y (fun h=>?_) fun h=>?_
  ·
   refine Ze<|Zh<|Zd<|K4 0 1 7 8 Y<|Tr<|Rm Y<|Ra Y<|Za<|K5 0 1 5 7 8 Y<|Tr<|Rm Y<|Rm Y<|Rm Y<|bE h fun x h_x h=>Rq Y (ZE (ov Y) (ov Y) Za9 h_x)<|Rq Y (Zk (ov Y) Q5 Y Y)<|bE h fun y h_y h=>Rq Y (JL (ov Y) f_d (f_h _ _ h_y)<|.cons (ov Y) (.aggB Y) .nil)<|Za<|K6 0 1 5 7 8 16 Y<|If h Y (fun h=>?_) fun h=>?_
   ·
    refine K1 5 Y<|Tr<|Rm Y<|Ra Y<|Za<|?_
    replace h := lx h ▸ ho1
    obtain rfl := rt h
    exact Zi (Zn Y (.one<|rb Y))
   ·
    exact Ze<|K4 0 1 7 8 Y<|Zt<|R2 ZT Y<|Rm Y<|Za<|⟨_, h, ES []<|sd 0 Y Y<|sr 1 Y (rFn<|rld f_d)<|sd 7 Y Y<|sd 8 Y Y sn⟩
  ·
   refine Zz<|?_
   replace h := lx h ▸ ho1
   exact ⟨(), h, ES []⟩
 ·
  replace h := elr h
  replace h := t0i h
  refine Tr<|Ra Y<|Za<|?_
  obtain rfl := rt h
  exact Zi (Zn Y (.one<|rb Y))
theorem Jo {s : List api_Param} {f : api_Param → Option Bool} {r : Bool} {f_f : FuncId} {f_c : List AV} (f_d : f_c.all datB = true) (f_h : ∀ (z0 : api_Param) z, f z0 = some z → CSpec Tryd.prog gl0 f_f ([.agg [.str z0.Name, .int .i64 z0.Kind, .sl 42 (List.map R42 z0.Parts), .int .i64 z0.First, .int .i64 z0.Every, .int .i64 z0.Times, .int .i64 z0.Step, .sl 9 (List.map R9 z0.Names)]] ++ f_c) (.bool z)) (h : Zw s f = some r) :
 CSpec Tryd.prog gl0 31 [.sl 46 (List.map R46 s), .fn f_f f_c] (.bool r) := by
 unfold Zw at h
 replace h := Z0 h
 refine So Tryd.func31 Y fun w0 A=>Tr<|Ra Y<|Za<|Tr<|Rm Y<|Rm Y<|bE h fun y h_y h=>Rq Y (Zl (JR f_d f_h h_y)<|.cons (ov Y) (.b Y)<|.cons (ov Y) (Dat.fnC<|.refl fun x hx => .b<|List.all_eq_true.1 f_d x hx) .nil)<|R2 ZbG Y<|Ra Y<|Za<|?_
 obtain rfl := rt h
 exact Zi (Zn Y (.one<|rb Y))
theorem ZfH {q : api_Param} {c0 : api_Param} {r : Bool} (h : X9 q c0 = some r) :
 CSpec Tryd.prog gl0 32 [.agg [.str q.Name, .int .i64 q.Kind, .sl 42 (List.map R42 q.Parts), .int .i64 q.First, .int .i64 q.Every, .int .i64 q.Times, .int .i64 q.Step, .sl 9 (List.map R9 q.Names)], .rp [.str c0.Name, .int .i64 c0.Kind, .sl 42 (List.map R42 c0.Parts), .int .i64 c0.First, .int .i64 c0.Every, .int .i64 c0.Times, .int .i64 c0.Step, .sl 9 (List.map R9 c0.Names)] 0] (.bool r) := by
 unfold X9 at h
 replace h := Z0 h
 refine So Tryd.func32 Y fun w0 A=>Tr<|Rq Y (Qa (cva<|ov Y) Y tZ_46 Y)<|Ra Y<|Za<|K3 1 2 3 Y<|Tr<|Rq Y (Zf (ov Y) Zgz)<|Rq Y (Zb (ov Y) tS9 Y)<|Rq Y (Zf (ov Y) Zgz)<|Rq Y (Zb (ov Y) tS9 Y)<|R2 Zfx Y<|Ra Y<|Za<|?_
 obtain rfl := rt h
 exact Zi (Zn Y (.one<|rb Y))
theorem ZdV {m : api_Map} {r : Int × Int} (h : XQ m = some r) :
 CSpec Tryd.prog gl0 14 [.agg [.int .i64 m.Version, .sl 46 (List.map R46 m.Params)]] (.tuple [.int .i64 r.1, .int .i64 r.2]) := by
 unfold XQ at h
 replace h := Z0 h
 refine So Tryd.func14 Y fun w0 A=>Tr<|Rq Y (Qa (cva<|ov Y) Y tZ_24 Y)<|Ra Y<|Ra Y<|Za<|Zh<|K1 1 Y<|Tr<|Rq Y (Zf (ov Y) Zht)<|Rq Y (Zb (ov Y) tS3 Y)<|bE h fun y h_y h=>Rq Y (Zl (Z4 h_y)<|.cons (ov Y) (.b Y)<|.cons (ov Y) (.b Y)<|.cons (ov Y) (.b Y) .nil)<|R1 X1 Y<|Za<|K2 1 18 Y<|If h Y (fun h=>?_) fun h=>?_
 ·
  refine K0<|Tr<|Ra Y<|Ra Y<|Za<|?_
  obtain rfl := rt h
  exact Zi (Zn Y (.two (rb Y)<|rb Y))
 ·
  refine Ze<|Zh<|K1 1 Y<|Tr<|Rq Y (Zf (ov Y) J9)<|Rq Y (Zb (ov Y) Zd9 Y)<|Rl tZ_46 Za9 Y<|R2 X0 Y<|Za<|K2 1 22 Y<|If h Y (fun h=>?_) fun h=>?_
  ·
   refine K0<|Tr<|Ra Y<|Ra Y<|Za<|?_
   obtain rfl := rt h
   exact Zi (Zn Y (.two (rb Y)<|rb Y))
  ·
   refine Ze<|J0 (fun j => (.inr j)) ⟨[(1, .rp [.int .i64 m.Version, .sl 46 (List.map R46 m.Params)] 0)], []⟩ h (fun h=>?_) fun h=>?_
   ·
    refine K1 1 Y<|Tr<|Rq Y (Zf (ov Y) J9)<|Rq Y (Zb (ov Y) Zd9 Y)<|Rl tZ_46 Za9 Y<|Rm Y<|Za<|Zd<|?_
    obtain ⟨r1, hl1, ho1⟩ := Qt h
    refine L1 (fun i=>⟨[(1, .rp [.int .i64 m.Version, .sl 46 (List.map R46 m.Params)] 0), (24, .sl 46 (List.map R46 m.Params)), (25, .int .i64 (m.Params.length : Int)), (26, .int .i64 i)], []⟩) hl1 (ES []) fun n1 i h=>?_
    unfold Xc at h
    refine Tr<|R2 ZH Y<|Za<|Zh<|If h Y (fun h=>?_) fun h=>?_
    ·
     refine Ze<|Zh<|Zd<|K4 1 24 25 26 Y<|Tr<|Rm Y<|bE h fun x h_x h=>Rq Y (ZE (ov Y) (ov Y) Za9 h_x)<|Rq Y (Zk (ov Y) Q5 Y Y)<|Rx Y (Zq (row := [_, _, _, _, _, _, _, _]) 0 Y Zhh Y tZ_46)<|Ra Y<|Rx Y (Zj (ov Y) (ov Y) (Zg Q5 Y) Y Y Y (Nat.le_of_ble_eq_true Y) (Zc Y) Y)<|Za<|Zh<|K6 1 4 5 24 25 26 Y<|Tr<|Rq Y (ZC (ov Y) Y Y Y Q5 Y Y)<|bE h fun y2 h_y2 h=>Rq Y (Zl (Zec h_y2)<|.cons (ov Y) (.aggB Y) .nil)<|Ra Y<|Za<|K7 1 4 5 6 24 25 26 Y<|Tr<|Rm Y<|R2 QZ Y<|Za<|K8 1 4 5 6 24 25 26 34 Y<|If h Y (fun h=>?_) fun h=>?_
     ·
      refine K2 4 6 Y<|Tr<|Rm Y<|Rm Y<|Ra Y<|Ra Y<|Za<|?_
      replace h := lx h ▸ ho1
      obtain rfl := rt h
      exact Zi (Zn Y (.two (rb Y)<|rb Y))
     ·
      refine Ze<|K6 1 4 5 24 25 26 Y<|Tr<|Rq Y (Zf (ov Y) J9)<|Rq Y (Zb (ov Y) Zd9 Y)<|Rm Y<|bE h fun l h_l h=>Rq Y (ZfM (ov Y) Za9 on (oi<|ov Y) h_l)<|ZdP (Ent.sel [none] (sd 1 Y Y<|sd 4 Y Y<|sr 5 Y (.frp ⟨Y, ⟨_, Y⟩, Y, Y⟩)<|sd 24 Y Y<|sd 25 Y Y<|sd 26 Y Y<|sd 37 Y Y<|sd 38 Y Y<|sd 39 Y Y<|sd 40 Y Y sn) (.row 46 .nil) Y Y)<|Rq Y (QD<|.cons (ov Y) .nil)<|bE h fun y3 h_y3 h=>Rq Y (Zl (Jo Y (fun z0 _ hz=>ZfH hz) h_y3)<|.cons (ov Y) (.b Y)<|.cons (ov Y) (.fnC<|.cons (.b Y) .nil) .nil)<|Za<|K6 1 4 24 25 26 42 Y<|If h Y (fun h=>?_) fun h=>?_
      ·
       refine K1 4 Y<|Tr<|Rm Y<|Ra Y<|Ra Y<|Za<|?_
       replace h := lx h ▸ ho1
       obtain rfl := rt h
       exact Zi (Zn Y (.two (rb Y)<|rb Y))
      ·
       exact Ze<|K4 1 24 25 26 Y<|Zt<|R2 ZT Y<|Rm Y<|Za<|⟨_, h, ES []⟩
    ·
     refine Zz<|?_
     replace h := lx h ▸ ho1
     exact ⟨(), h, ES []⟩
   ·
    replace h := elr h
    replace h := t0i h
    refine Tr<|Ra Y<|Za<|J0 (fun j => (.inr j)) ⟨[(1, .rp [.int .i64 m.Version, .sl 46 (List.map R46 m.Params)] 0)], []⟩ h (fun h=>?_) fun h=>?_
    ·
     refine Tr<|Rq Y (Zf (ov Y) J9)<|Rq Y (Zb (ov Y) Zd9 Y)<|Rl tZ_46 Za9 Y<|Rm Y<|Za<|Zd<|?_
     obtain ⟨r2, hl2, ho2⟩ := Qt h
     refine L2 (fun cells i2=>⟨[(1, .rp [.int .i64 m.Version, .sl 46 (List.map R46 m.Params)] 0), (7, .int .i64 cells), (46, .sl 46 (List.map R46 m.Params)), (47, .int .i64 (m.Params.length : Int)), (48, .int .i64 i2)], []⟩) hl2 (ES []) fun n2 cells i2 h=>?_
     unfold QP at h
     refine Tr<|R2 ZH Y<|Za<|Zh<|If h Y (fun h=>?_) fun h=>?_
     ·
      refine Ze<|Zh<|Zd<|K5 1 7 46 47 48 Y<|Tr<|Rm Y<|bE h fun x2 h_x2 h=>Rq Y (ZE (ov Y) (ov Y) Za9 h_x2)<|Rq Y (Zk (ov Y) Q5 Y Y)<|Rx Y (Zq (row := [_, _, _, _, _, _, _, _]) 0 Y Zhh Y tZ_46)<|Ra Y<|Rx Y (Zj (ov Y) (ov Y) (Zg Q5 Y) Y Y Y (Nat.le_of_ble_eq_true Y) (Zc Y) Y)<|Za<|K7 1 7 8 9 46 47 48 Y<|Td md0<|D1 0 Zr Y<|Dq 1 Y (ZC (ov Y) Y Y Y Q5 Y Y)<|bE h fun y4 h_y4 h=>Dq 2 Y (Zl (Zda h_y4)<|.cons (ov Y) (.aggB Y) .nil)<|Dq 3 Y (Zd7 (X8 (ov Y) tZ_3) X3<|ZbB _ _)<|Dq 4 Y (Zp (ov Y) Y Y Zc6)<|Dq 5 Y (Zm (ov Y) Y Y Y tS3 Y)<|D2 6 ZhK Y<|D2 7 ZT Y<|D1 8 Qe Y<|Dd<|K6 1 7 8 46 47 48 Y<|Tr<|Rm Y<|R2 X0 Y<|Za<|K7 1 7 8 46 47 48 62 Y<|If h Y (fun h=>?_) fun h=>?_
      ·
       refine K1 8 Y<|Tr<|Rm Y<|Ra Y<|Ra Y<|Za<|?_
       replace h := lx h ▸ ho2
       obtain rfl := rt h
       exact Zi (Zn Y (.two (rb Y)<|rb Y))
      ·
       exact Ze<|K5 1 7 46 47 48 Y<|Zt<|R2 ZT Y<|Rm Y<|Za<|⟨_, h, ES []⟩
     ·
      refine Zz<|?_
      replace h := lx h ▸ ho2
      exact ⟨(), h, ES []⟩
    ·
     replace h := elr h
     replace h := t0i h
     refine Tr<|Rx Y (Zdm 0 Y ZkQ)<|Ra Y<|Za<|J0 (fun j => (.inr j)) ⟨[], []⟩ h (fun h=>?_) fun h=>?_
     ·
      refine K2 1 10 Y<|Tr<|Rq Y (Zf (ov Y) J9)<|Rq Y (Zb (ov Y) Zd9 Y)<|Rl tZ_46 Za9 Y<|Rm Y<|Za<|Zd<|?_
      obtain ⟨r3, hl3, ho3⟩ := Qt h
      refine L2 (fun taken i3=>⟨[(10, .mref 0 1), (67, .sl 46 (List.map R46 m.Params)), (68, .int .i64 (m.Params.length : Int)), (69, .int .i64 i3)], [some ⟨83, [[.mcon (List.map (QS Xn FV3) taken)]]⟩]⟩) hl3 (ES [some 0] (hhp := .cons Y (QK (fk := Xn) (fv := FV3) (m := ([] : List (layout_bit × Int))) tZ_83 (fun _=>X2<|rld Y) fun _=>.ren<|.dat Y) .nil)) fun n3 taken i3 h=>?_
      unfold QN at h
      refine Tr<|R2 ZH Y<|Za<|Zh<|If h Y (fun h=>?_) fun h=>?_
      ·
       refine Ze<|J1 (fun j => (.inr j)) (fun taken2=>⟨[(10, .mref 0 1), (67, .sl 46 (List.map R46 m.Params)), (68, .int .i64 (m.Params.length : Int)), (69, .int .i64 i3)], [some ⟨83, [[.mcon (List.map (QS Xn FV3) taken2)]]⟩]⟩) h (fun h=>?_) fun taken2 h=>?_
       ·
        refine Zd<|K4 10 67 68 69 Y<|Tr<|Rm Y<|bE h fun x3 h_x3 h=>Rq Y (ZE (ov Y) (ov Y) Za9 h_x3)<|Rq Y (Zk (ov Y) Q5 Y Y)<|Rx Y (Zq (row := [_, _, _, _, _, _, _, _]) 1 Y Zhh Y tZ_46)<|Ra Y<|Rx Y (Zj (ov Y) (ov Y) (Zg Q5 Y) Y Y Y (Nat.le_of_ble_eq_true Y) (Zc Y) Y)<|Za<|K6 10 11 12 67 68 69 Y<|Tr<|Rm Y<|Rq Y (ZC (ov Y) Y Y Y Q5 Y Y)<|bE h fun y5 h_y5 h=>Rq Y (Zl (Zbz h_y5)<|.cons (ov Y) (.b Y)<|.cons (ov Y) (.aggB Y) .nil)<|Rl tZ_58 ZbZ Y<|Rm Y<|Za<|Zd<|?_
        obtain ⟨r4, hl4, ho4⟩ := Qt h
        refine L2 (fun taken3 i4=>⟨[(10, .mref 0 1), (11, .int .i64 i3), (67, .sl 46 (List.map R46 m.Params)), (68, .int .i64 (m.Params.length : Int)), (69, .int .i64 i3), (76, .sl 58 (List.map R58 y5)), (77, .int .i64 (y5.length : Int)), (78, .int .i64 i4)], [some ⟨83, [[.mcon (List.map (QS Xn FV3) taken3)]]⟩]⟩) hl4 (ES [some 0] (hhp := .cons Y (QK (fk := Xn) (fv := FV3) (m := taken) tZ_83 (fun _=>X2<|rld Y) fun _=>.ren<|.dat Y) .nil)) fun n4 taken3 i4 h=>?_
        unfold QM at h
        refine Tr<|R2 ZH Y<|Za<|Zh<|If h Y (fun h=>?_) fun h=>?_
        ·
         refine Ze<|Zh<|Zd<|K8 10 11 67 68 69 76 77 78 Y<|Tr<|bE h fun x4 h_x4 h=>Rq Y (ZE (ov Y) (ov Y) ZbZ h_x4)<|Rq Y (Zk (ov Y) ZdO Y Y)<|Rx Y (Zq (row := [_, _, _, _]) 1 Y ZhG Y tZ_58)<|Rx Y (Zj (ov Y) (ov Y) (Zg ZdO Y) Y Y Y (Nat.le_of_ble_eq_true Y) (Zc Y) Y)<|Za<|K9 10 11 14 67 68 69 76 77 78 Y<|Tr<|Rm Y<|Rm Y<|Rq Y (Zp (ov Y) Y Y Zc4)<|Rq Y (Zm (ov Y) Y Y Y Zh0 Y)<|bE h fun y6 h_y6 h=>Rx Y (ZeK [0] (ZdY h_y6) (.cons (ov Y) (.mref _ Y)<|.cons (ov Y) (.dat Y)<|.cons (ov Y) (.dat Y) .nil) (.cons Y (QK (fk := Xn) (fv := FV3) (m := taken3) tZ_83 (fun _=>X2<|rld Y) fun _=>.ren<|.dat Y) .nil) Y (.lent 0 (.inl Y) Y (QK (fk := Xn) (fv := FV3) (m := y6.2) tZ_83 (fun _=>X2<|rld Y) fun _=>.ren<|.dat Y)<|.keep Y Y .nil) Y Y<|.dat Y)<|R1 X1 Y<|Za<|K9 10 11 67 68 69 76 77 78 87 Y<|If h Y (fun h=>?_) fun h=>?_
         ·
          refine K1 11 Y<|Tr<|Rm Y<|Ra Y<|Ra Y<|Za<|?_
          replace h := lx h ▸ ho4
          replace h := lx h ▸ ho3
          obtain rfl := rt h
          exact Zi (Zn Y (.two (rb Y)<|rb Y))
         ·
          exact Ze<|K8 10 11 67 68 69 76 77 78 Y<|Zt<|R2 ZT Y<|Rm Y<|Za<|⟨_, h, ES [some 0] (hhp := .cons Y (QK (fk := Xn) (fv := FV3) (m := y6.2) tZ_83 (fun _=>X2<|rld Y) fun _=>.ren<|.dat Y) .nil)⟩
        ·
         refine Zz<|?_
         replace h := lx h ▸ ho4
         exact ⟨_, h, ES [some 0] (hhp := .cons Y (QK (fk := Xn) (fv := FV3) (m := taken3) tZ_83 (fun _=>X2<|rld Y) fun _=>.ren<|.dat Y) .nil)⟩
       ·
        replace h := elr h
        replace h := t1i h
        exact Zt<|R2 ZT Y<|Rm Y<|Za<|⟨_, h, ES [some 0] (hhp := .cons Y (QK (fk := Xn) (fv := FV3) (m := taken2) tZ_83 (fun _=>X2<|rld Y) fun _=>.ren<|.dat Y) .nil)⟩
      ·
       refine Zz<|?_
       replace h := lx h ▸ ho3
       exact ⟨(), h, ES []⟩
     ·
      replace h := elr h
      replace h := t0i h
      refine Tr<|Ra Y<|Ra Y<|Za<|?_
      obtain rfl := rt h
      exact Zi (Zn Y (.two (rb Y)<|rb Y))
theorem ZdS {m : api_Map} {r : (List api_Cell)} (h : XN m = some r) :
 CSpec Tryd.prog gl0 15 [.agg [.int .i64 m.Version, .sl 46 (List.map R46 m.Params)]] (.sl 58 (List.map R58 r)) := by
 unfold XN at h
 replace h := Z0 h
 refine So Tryd.func15 Y fun w0 A=>Tr<|Rq Y (Qa (cva<|ov Y) Y tZ_24 Y)<|Ra Y<|Za<|K1 1 Y<|Tr<|Ra Y<|Za<|I1 (fun out=>⟨[(3, .own 0 out.length)], [some ⟨58, List.map R58 out⟩]⟩) h (fun h=>?_) fun out h=>?_
 ·
  refine Tr<|Rq Y (Zf (ov Y) J9)<|Rq Y (Zb (ov Y) Zd9 Y)<|Rl tZ_46 Za9 Y<|Rm Y<|Za<|Zd<|?_
  obtain ⟨r1, hl1, ho1⟩ := Qt h
  refine L2 (fun out2 i=>⟨[(3, .own 0 out2.length), (7, .sl 46 (List.map R46 m.Params)), (8, .int .i64 (m.Params.length : Int)), (9, .int .i64 i)], [some ⟨58, List.map R58 out2⟩]⟩) hl1 (ES [none]) fun n1 out2 i h=>?_
  unfold Jv at h
  refine Tr<|R2 ZH Y<|Za<|Zh<|If h Y (fun h=>?_) fun h=>?_
  ·
   exact Ze<|Zh<|Zd<|K4 3 7 8 9 Y<|Tr<|Rm Y<|bE h fun x h_x h=>Rq Y (ZE (ov Y) (ov Y) Za9 h_x)<|Rq Y (Zk (ov Y) Q5 Y Y)<|Rx Y (Zq (row := [_, _, _, _, _, _, _, _]) 1 Y Zhh Y tZ_46)<|Ra Y<|Rx Y (Zj (ov Y) (ov Y) (Zg Q5 Y) Y Y Y (Nat.le_of_ble_eq_true Y) (Zc Y) Y)<|Za<|K6 3 4 5 7 8 9 Y<|Zt<|Rm Y<|Rm Y<|Rq Y (ZC (ov Y) Y Y Y Q5 Y Y)<|bE h fun y h_y h=>Rq Y (Zl (Zbz h_y)<|.cons (ov Y) (.b Y)<|.cons (ov Y) (.aggB Y) .nil)<|bE h fun l h_l h=>Rx Y (Zii (ov Y) (X8 (ov Y) tZ_58) ZbZ Y Y (fun _=>Zc Y) Y h_l)<|Ra Y<|Za<|K4 3 7 8 9 Y<|Zt<|R2 ZT Y<|Rm Y<|Za<|⟨_, h, ES [some 0]⟩
  ·
   refine Zz<|?_
   replace h := lx h ▸ ho1
   exact ⟨_, h, ES [some 0]⟩
 ·
  refine Tr<|Rm Y<|Ra Y<|Za<|?_
  obtain rfl := rt h
  exact Zi (Zn Y (.one<|.tmp Y<|View.ownM Y Y D58))
theorem Zeb {v : Int} {r : Int} (h : Q8 v = some r) :
 CSpec Tryd.prog gl0 36 [.int .i64 v] (.int .i64 r) := by
 unfold Q8 at h
 replace h := Z0 h
 refine So Tryd.func36 Y fun w0 A=>Tr<|Ra Y<|Za<|Tr<|Rm Y<|Ra Y<|Za<|?_
 obtain rfl := rt h
 exact Zi (Zn Y (.one<|rb Y))
theorem Zdx {raw : Int} {c0 : Int} {r : Int × Bool} (h : Zao raw c0 = some r) :
 CSpec Tryd.prog gl0 38 [.int .i64 raw, .rp [.int .i64 c0] 0] (.tuple [.int .i64 r.1, .bool r.2]) := by
 unfold Zao at h
 replace h := Z0 h
 refine So Tryd.func38 Y fun w0 A=>Tr<|Ra Y<|Ra Y<|Za<|Td md0<|D1 0 Zr Y<|D1 1 Zr Y<|Dq 2 Y (Zb (ov Y) tS3 Y)<|D2 3 Ze1 Y<|D1 4 Qe Y<|D1 5 Qe Y<|Dd<|?_
 obtain rfl := rt h
 exact Zi (Zn Y (.two (rb Y)<|rb Y))
theorem J7 {high : Int} {r : layout_number} (h : Qr high = some r) :
 CSpec Tryd.prog gl0 37 [.int .i64 high, .rp [.fn 36 []] 0] (.agg [.int .i64 r.low, .int .i64 r.high, .fn r.encode.f r.encode.c, .fn r.decode.f r.decode.c]) := by
 unfold Qr at h
 replace h := Z0 h
 refine So Tryd.func37 Y fun w0 A=>Tr<|Rq Y (Qa (cvs (ov Y)<|Zs Y) Y tZ_3 Y)<|Rx Y (Zq (row := [_, _, _, _]) 0 Y Zgc Y tZ_62)<|Za<|K3 1 2 3 Y<|Tr<|Rq Y (Zb (ov Y) tS3 Y)<|Rq Y (Zb (ov Y) Zoq Y)<|Rq Y (QD<|.cons (ov Y) .nil)<|Rq Y (JP (ys := [_, _, _, _]) ZkJ ZkB Zgc (.cons (cvs (ov Y)<|Zs Y)<|.cons (cvs (ov Y)<|Zs Y)<|.cons (cvs (ov Y)<|Zs Y)<|.cons (cvs (ov Y)<|Zs Y) .nil) Y)<|Rx Y (Zj (ov Y) (ov Y) (Zg ZbM Y) Y Y Y (Nat.le_of_ble_eq_true Y) (Zc Y) Y)<|Za<|?_
 obtain rfl := rt h
 exact Zi (Zn Y (.one<|.agg Y Y Y Y ZbM Y Y<|.cons (Dat.view<|.b Y)<|.cons (Dat.view<|.b Y)<|.cons (Dat.view .fn)<|.cons (Dat.view<|.fnC<|.cons (.b Y) .nil) .nil))
theorem ZB {high : Int} {r : layout_number} (h : Qr high = some r) : Zcr r.encode ∧ Zcq r.decode := by
  have key : Zep (fun r => Zcr r.encode ∧ Zcq r.decode) (Qr high) := by
    unfold Qr
    repeat' (first | exact Zcy | with_reducible refine Zee ?_ ?_ | with_reducible refine ZcQ fun _ _ => ?_ | with_reducible refine ZgQ ?_)
    all_goals first | exact Zaf ⟨⟨rfl, fun z0 _ hz => Zeb hz⟩, ⟨rfl, fun z0 _ hz => Zdx hz⟩⟩
  exact key r h
theorem ZeH {c1 : Int} {r : layout_number} (h : Xa c1 = some r) :
 CSpec Tryd.prog gl0 39 [.rp [.fn 37 [.rp [.fn 36 []] 0]] 0, .rp [.int .i64 c1] 0] (.agg [.int .i64 r.low, .int .i64 r.high, .fn r.encode.f r.encode.c, .fn r.decode.f r.decode.c]) := by
 unfold Xa at h
 replace h := Z0 h
 refine So Tryd.func39 Y fun w0 A=>Tr<|Rx Y (Zq (row := [_, _, _, _]) 0 Y Zgc Y tZ_62)<|Za<|Tr<|Rq Y (Zb (ov Y) Znm Y)<|Rq Y (Zb (ov Y) tS3 Y)<|R2 ZhK Y<|R2 JV Y<|bE h fun y h_y h=>Rq Y (JL (ov Y) Y (J7 h_y)<|.cons (ov Y) (.b Y) .nil)<|Rx Y (Zj (ov Y) (ov Y) (Zg ZbM Y) Y Y Y (Nat.le_of_ble_eq_true Y) (Zc Y) Y)<|Za<|?_
 obtain rfl := rt h
 exact Zi (Zn Y (.one<|.agg Y Y Y Y ZbM Y Y<|.cons (Dat.view<|.b Y)<|.cons (Dat.view<|.b Y)<|.cons (Dat.view<|Dat.fnC<|.refl fun x hx => .b<|List.all_eq_true.1 (((ZB h_y).1)).1 x hx)<|.cons (Dat.view<|Dat.fnC<|.refl fun x hx => .b<|List.all_eq_true.1 (((ZB h_y).2)).1 x hx) .nil))
theorem XD {c1 : Int} {r : layout_number} (h : Xa c1 = some r) : Zcr r.encode ∧ Zcq r.decode := by
  have key : Zep (fun r => Zcr r.encode ∧ Zcq r.decode) (Xa c1) := by
    unfold Xa
    repeat' (first | exact Zcy | with_reducible refine Zee ?_ ?_ | with_reducible refine ZcQ fun _ _ => ?_ | with_reducible refine ZgQ ?_)
    all_goals first | exact Zaf ⟨((ZB (by assumption)).1), ((ZB (by assumption)).2)⟩
  exact key r h
theorem Zex  {r : layout_number} (h : Q6  = some r) :
 CSpec Tryd.prog gl0 40 [.rp [.fn 37 [.rp [.fn 36 []] 0]] 0] (.agg [.int .i64 r.low, .int .i64 r.high, .fn r.encode.f r.encode.c, .fn r.decode.f r.decode.c]) := by
 unfold Q6 at h
 replace h := Z0 h
 refine So Tryd.func40 Y fun w0 A=>Tr<|Rx Y (Zq (row := [_, _, _, _]) 0 Y Zgc Y tZ_62)<|Za<|Tr<|Rq Y (Zb (ov Y) Znm Y)<|bE h fun y h_y h=>Rq Y (JL (ov Y) Y (J7 h_y)<|.cons (ov Y) (.b Y) .nil)<|Rx Y (Zj (ov Y) (ov Y) (Zg ZbM Y) Y Y Y (Nat.le_of_ble_eq_true Y) (Zc Y) Y)<|Za<|?_
 obtain rfl := rt h
 exact Zi (Zn Y (.one<|.agg Y Y Y Y ZbM Y Y<|.cons (Dat.view<|.b Y)<|.cons (Dat.view<|.b Y)<|.cons (Dat.view<|Dat.fnC<|.refl fun x hx => .b<|List.all_eq_true.1 (((ZB h_y).1)).1 x hx)<|.cons (Dat.view<|Dat.fnC<|.refl fun x hx => .b<|List.all_eq_true.1 (((ZB h_y).2)).1 x hx) .nil))
theorem XE  {r : layout_number} (h : Q6  = some r) : Zcr r.encode ∧ Zcq r.decode := by
  have key : Zep (fun r => Zcr r.encode ∧ Zcq r.decode) (Q6 ) := by
    unfold Q6
    repeat' (first | exact Zcy | with_reducible refine Zee ?_ ?_ | with_reducible refine ZcQ fun _ _ => ?_ | with_reducible refine ZgQ ?_)
    all_goals first | exact Zaf ⟨((ZB (by assumption)).1), ((ZB (by assumption)).2)⟩
  exact key r h
theorem ZeF {c1 : api_Param} {r : layout_number} (h : Q9 c1 = some r) :
 CSpec Tryd.prog gl0 41 [.rp [.fn 37 [.rp [.fn 36 []] 0]] 0, .rp [.str c1.Name, .int .i64 c1.Kind, .sl 42 (List.map R42 c1.Parts), .int .i64 c1.First, .int .i64 c1.Every, .int .i64 c1.Times, .int .i64 c1.Step, .sl 9 (List.map R9 c1.Names)] 0] (.agg [.int .i64 r.low, .int .i64 r.high, .fn r.encode.f r.encode.c, .fn r.decode.f r.decode.c]) := by
 unfold Q9 at h
 replace h := Z0 h
 refine So Tryd.func41 Y fun w0 A=>Tr<|Rx Y (Zq (row := [_, _, _, _]) 0 Y Zgc Y tZ_62)<|Za<|Tr<|Rq Y (Zb (ov Y) Znm Y)<|Rq Y (Zf (ov Y) Zbr)<|Rq Y (Zb (ov Y) ZfZ Y)<|Rl tZ_9 Zdd Y<|R2 JV Y<|bE h fun y h_y h=>Rq Y (JL (ov Y) Y (J7 h_y)<|.cons (ov Y) (.b Y) .nil)<|Rx Y (Zj (ov Y) (ov Y) (Zg ZbM Y) Y Y Y (Nat.le_of_ble_eq_true Y) (Zc Y) Y)<|Za<|?_
 obtain rfl := rt h
 exact Zi (Zn Y (.one<|.agg Y Y Y Y ZbM Y Y<|.cons (Dat.view<|.b Y)<|.cons (Dat.view<|.b Y)<|.cons (Dat.view<|Dat.fnC<|.refl fun x hx => .b<|List.all_eq_true.1 (((ZB h_y).1)).1 x hx)<|.cons (Dat.view<|Dat.fnC<|.refl fun x hx => .b<|List.all_eq_true.1 (((ZB h_y).2)).1 x hx) .nil))
theorem XB {c1 : api_Param} {r : layout_number} (h : Q9 c1 = some r) : Zcr r.encode ∧ Zcq r.decode := by
  have key : Zep (fun r => Zcr r.encode ∧ Zcq r.decode) (Q9 c1) := by
    unfold Q9
    repeat' (first | exact Zcy | with_reducible refine Zee ?_ ?_ | with_reducible refine ZcQ fun _ _ => ?_ | with_reducible refine ZgQ ?_)
    all_goals first | exact Zaf ⟨((ZB (by assumption)).1), ((ZB (by assumption)).2)⟩
  exact key r h
theorem ZdE {v : Int} {c0 : Int} {r : Int} (h : Zas v c0 = some r) :
 CSpec Tryd.prog gl0 43 [.int .i64 v, .rp [.int .i64 c0] 0] (.int .i64 r) := by
 unfold Zas at h
 replace h := Z0 h
 refine So Tryd.func43 Y fun w0 A=>Tr<|Ra Y<|Za<|Tr<|Rm Y<|Rq Y (Zb (ov Y) tS3 Y)<|R2 ZhK Y<|R2 JV Y<|R2 Zck Y<|Ra Y<|Za<|?_
 obtain rfl := rt h
 exact Zi (Zn Y (.one<|rb Y))
theorem Zdy {raw : Int} {c0 : Int} {r : Int × Bool} (h : Xf raw c0 = some r) :
 CSpec Tryd.prog gl0 44 [.int .i64 raw, .rp [.int .i64 c0] 0] (.tuple [.int .i64 r.1, .bool r.2]) := by
 unfold Xf at h
 replace h := Z0 h
 refine So Tryd.func44 Y fun w0 A=>Tr<|Ra Y<|Ra Y<|Za<|Zh<|K2 0 1 Y<|Tr<|Rm Y<|Rq Y (Zb (ov Y) tS3 Y)<|R2 ZbG Y<|Za<|K3 0 1 7 Y<|If h Y (fun h=>?_) fun h=>?_
 ·
  refine K2 0 1 Y<|Zt<|Rm Y<|Rq Y (Zb (ov Y) tS3 Y)<|R2 ZhK Y<|R2 JV Y<|Ra Y<|Za<|K1 0 Y<|Tr<|Rm Y<|Ra Y<|Ra Y<|Za<|?_
  obtain rfl := rt h
  exact Zi (Zn Y (.two (rb Y)<|rb Y))
 ·
  refine Ze<|K1 0 Y<|Tr<|Rm Y<|Ra Y<|Ra Y<|Za<|?_
  obtain rfl := rt h
  exact Zi (Zn Y (.two (rb Y)<|rb Y))
theorem Zd1 {c0 : Int} {r : layout_number} (h : Qq c0 = some r) :
 CSpec Tryd.prog gl0 42 [.rp [.int .i64 c0] 0] (.agg [.int .i64 r.low, .int .i64 r.high, .fn r.encode.f r.encode.c, .fn r.decode.f r.decode.c]) := by
 unfold Qq at h
 replace h := Z0 h
 refine So Tryd.func42 Y fun w0 A=>Tr<|Rx Y (Zq (row := [_, _, _, _]) 0 Y Zgc Y tZ_62)<|Za<|Tr<|Rq Y (Zb (ov Y) tS3 Y)<|Rq Y (ZlY (ov Y) Y)<|Rq Y (Zb (ov Y) tS3 Y)<|R2 JV Y<|Rq Y (QD<|.cons (ov Y) .nil)<|Rq Y (QD<|.cons (ov Y) .nil)<|Rq Y (JP (ys := [_, _, _, _]) ZkJ ZkB Zgc (.cons (cvs (ov Y)<|Zs Y)<|.cons (cvs (ov Y)<|Zs Y)<|.cons (cvs (ov Y)<|Zs Y)<|.cons (cvs (ov Y)<|Zs Y) .nil) Y)<|Rx Y (Zj (ov Y) (ov Y) (Zg ZbM Y) Y Y Y (Nat.le_of_ble_eq_true Y) (Zc Y) Y)<|Za<|?_
 obtain rfl := rt h
 exact Zi (Zn Y (.one<|.agg Y Y Y Y ZbM Y Y<|.cons (Dat.view<|.b Y)<|.cons (Dat.view<|.b Y)<|.cons (Dat.view<|.fnC<|.cons (.b Y) .nil)<|.cons (Dat.view<|.fnC<|.cons (.b Y) .nil) .nil))
theorem XA {c0 : Int} {r : layout_number} (h : Qq c0 = some r) : Zcr r.encode ∧ Zcq r.decode := by
  have key : Zep (fun r => Zcr r.encode ∧ Zcq r.decode) (Qq c0) := by
    unfold Qq
    repeat' (first | exact Zcy | with_reducible refine Zee ?_ ?_ | with_reducible refine ZcQ fun _ _ => ?_ | with_reducible refine ZgQ ?_)
    all_goals first | exact Zaf ⟨⟨rfl, fun z0 _ hz => ZdE hz⟩, ⟨rfl, fun z0 _ hz => Zdy hz⟩⟩
  exact key r h
theorem ZdB {v : Int} {c0 : Int} {r : Int} (h : Xh v c0 = some r) :
 CSpec Tryd.prog gl0 46 [.int .i64 v, .rp [.int .i64 c0] 0] (.int .i64 r) := by
 unfold Xh at h
 replace h := Z0 h
 refine So Tryd.func46 Y fun w0 A=>Tr<|Ra Y<|Za<|Zh<|K2 0 1 Y<|Tr<|Rm Y<|R2 ZH Y<|Za<|K3 0 1 5 Y<|If h Y (fun h=>?_) fun h=>?_
 ·
  refine K2 0 1 Y<|Tr<|Rq Y (Zb (ov Y) tS3 Y)<|Rm Y<|R2 JV Y<|Ra Y<|Za<|?_
  obtain rfl := rt h
  exact Zi (Zn Y (.one<|rb Y))
 ·
  refine Ze<|K1 0 Y<|Tr<|Rm Y<|Ra Y<|Za<|?_
  obtain rfl := rt h
  exact Zi (Zn Y (.one<|rb Y))
theorem Zdz {raw : Int} {c0 : Int} {r : Int × Bool} (h : Xe raw c0 = some r) :
 CSpec Tryd.prog gl0 47 [.int .i64 raw, .rp [.int .i64 c0] 0] (.tuple [.int .i64 r.1, .bool r.2]) := by
 unfold Xe at h
 replace h := Z0 h
 refine So Tryd.func47 Y fun w0 A=>Tr<|Ra Y<|Ra Y<|Za<|Zh<|K2 0 1 Y<|Tr<|Rm Y<|Rq Y (Zb (ov Y) tS3 Y)<|R2 ZbG Y<|Za<|K3 0 1 7 Y<|If h Y (fun h=>?_) fun h=>?_
 ·
  refine K2 0 1 Y<|Td md0<|Dq 0 Y (Zb (ov Y) tS3 Y)<|D1 1 Zr Y<|D2 2 JV Y<|D1 3 Zr Y<|Dq 4 Y (Zb (ov Y) tS3 Y)<|D2 5 X0 Y<|D1 6 Qe Y<|D1 7 Qe Y<|Dd<|?_
  obtain rfl := rt h
  exact Zi (Zn Y (.two (rb Y)<|rb Y))
 ·
  refine Ze<|K1 0 Y<|Tr<|Rm Y<|Ra Y<|Ra Y<|Za<|?_
  obtain rfl := rt h
  exact Zi (Zn Y (.two (rb Y)<|rb Y))
theorem Zey {c0 : Int} {r : layout_number} (h : Xb c0 = some r) :
 CSpec Tryd.prog gl0 45 [.rp [.int .i64 c0] 0] (.agg [.int .i64 r.low, .int .i64 r.high, .fn r.encode.f r.encode.c, .fn r.decode.f r.decode.c]) := by
 unfold Xb at h
 replace h := Z0 h
 refine So Tryd.func45 Y fun w0 A=>Tr<|Rx Y (Zq (row := [_, _, _, _]) 0 Y Zgc Y tZ_62)<|Za<|Tr<|Rq Y (Zb (ov Y) tS3 Y)<|R2 JV Y<|Rq Y (Zb (ov Y) tS3 Y)<|R2 JV Y<|Rq Y (QD<|.cons (ov Y) .nil)<|Rq Y (QD<|.cons (ov Y) .nil)<|Rq Y (JP (ys := [_, _, _, _]) ZkJ ZkB Zgc (.cons (cvs (ov Y)<|Zs Y)<|.cons (cvs (ov Y)<|Zs Y)<|.cons (cvs (ov Y)<|Zs Y)<|.cons (cvs (ov Y)<|Zs Y) .nil) Y)<|Rx Y (Zj (ov Y) (ov Y) (Zg ZbM Y) Y Y Y (Nat.le_of_ble_eq_true Y) (Zc Y) Y)<|Za<|?_
 obtain rfl := rt h
 exact Zi (Zn Y (.one<|.agg Y Y Y Y ZbM Y Y<|.cons (Dat.view<|.b Y)<|.cons (Dat.view<|.b Y)<|.cons (Dat.view<|.fnC<|.cons (.b Y) .nil)<|.cons (Dat.view<|.fnC<|.cons (.b Y) .nil) .nil))
theorem Xz {c0 : Int} {r : layout_number} (h : Xb c0 = some r) : Zcr r.encode ∧ Zcq r.decode := by
  have key : Zep (fun r => Zcr r.encode ∧ Zcq r.decode) (Xb c0) := by
    unfold Xb
    repeat' (first | exact Zcy | with_reducible refine Zee ?_ ?_ | with_reducible refine ZcQ fun _ _ => ?_ | with_reducible refine ZgQ ?_)
    all_goals first | exact Zaf ⟨⟨rfl, fun z0 _ hz => ZdB hz⟩, ⟨rfl, fun z0 _ hz => Zdz hz⟩⟩
  exact key r h
end Go.Proofs.YtpfdelgflppgnabDoor
