/- A text of the proof: a verified executor of the program form, or the contracts of the functions that the law reaches. -/
import Derived.Test.YtagddpmlkcgbaaaVR
import Derived.Test.YtagddpmlkcgbaaaShT
import Derived.Test.YtagddpmlkcgbaaaProg
import Derived.Test.YtagddpmlkcgbaaaLayL
set_option linter.all false
namespace Go.Proofs.Ytagddpmlkcgbaaa
open Go Go.Vx
set_option maxRecDepth 10000
set_option maxHeartbeats 1000000
set_option linter.unusedVariables false
theorem tZ_49 : Try.prog.cellsOf 49 = 4 := by kernel_rfl
instance : SzD Try.prog 49 4 := ⟨tZ_49⟩
theorem tZ_9 : Try.prog.cellsOf 9 = 1 := by kernel_rfl
instance : SzD Try.prog 9 1 := ⟨tZ_9⟩
theorem tZ_36 : Try.prog.cellsOf 36 = 8 := by kernel_rfl
instance : SzD Try.prog 36 8 := ⟨tZ_36⟩
theorem tZ_24 : Try.prog.cellsOf 24 = 2 := by kernel_rfl
instance : SzD Try.prog 24 2 := ⟨tZ_24⟩
theorem ZbE : tAgg Try.prog 24 2 = true := by kernel_rfl
theorem Zjf : tSl Try.prog 39 24 2 32 = true := by kernel_rfl
theorem Zku : Xm Try.prog 24 = some [.int .i64 0, .slice none 0 0] := by kernel_rfl
theorem Zho : tFld Try.prog 24 0 0 = true := by kernel_rfl
theorem tS3 : tScal Try.prog 3 = true := by kernel_rfl
theorem Q1 : tFld Try.prog 24 1 1 = true := by kernel_rfl
theorem Zbv : tScal Try.prog 22 = true := by kernel_rfl
theorem Xy : tSl Try.prog 22 36 8 104 = true := by kernel_rfl
theorem Qi : tAgg Try.prog 36 8 = true := by kernel_rfl
theorem Zcu : Xm Try.prog 36 = some [.string ⟨#[]⟩, .int .i64 0, .slice none 0 0, .int .i64 0, .int .i64 0, .int .i64 0, .int .i64 0, .slice none 0 0] := by kernel_rfl
theorem Xx : tFld Try.prog 36 0 0 = true := by kernel_rfl
theorem tS9 : tScal Try.prog 9 = true := by kernel_rfl
theorem ZfA : tStr Try.prog 9 = true := by kernel_rfl
theorem Jc : tFld Try.prog 36 1 1 = true := by kernel_rfl
theorem XQ : tFld Try.prog 36 2 2 = true := by kernel_rfl
theorem ZcE : tScal Try.prog 33 = true := by kernel_rfl
theorem JD : tSl Try.prog 33 49 4 32 = true := by kernel_rfl
theorem ZbR : tAgg Try.prog 49 4 = true := by kernel_rfl
theorem Zgz : Xm Try.prog 49 = some [.int .i64 0, .int .i64 0, .int .i64 0, .int .i64 0] := by kernel_rfl
theorem Zfq : tFld Try.prog 49 0 0 = true := by kernel_rfl
theorem Zfu : tFld Try.prog 49 1 1 = true := by kernel_rfl
theorem Zfw : tFld Try.prog 49 2 2 = true := by kernel_rfl
theorem Zfn : tFld Try.prog 49 3 3 = true := by kernel_rfl
theorem ZaE : tSl Try.prog 52 3 1 8 = true := by kernel_rfl
theorem tZ_3 : Try.prog.cellsOf 3 = 1 := by kernel_rfl
instance : SzD Try.prog 3 1 := ⟨tZ_3⟩
theorem ZbH : tFld Try.prog 36 4 4 = true := by kernel_rfl
theorem Zcl : tFld Try.prog 36 3 3 = true := by kernel_rfl
theorem J3 : tFld Try.prog 36 5 5 = true := by kernel_rfl
theorem Zaa : tFld Try.prog 36 6 6 = true := by kernel_rfl
theorem tB4 : (match Try.prog.underlying 4 with | some .bool => true | _ => false) = true := by kernel_rfl
theorem X3 : tFld Try.prog 36 7 7 = true := by kernel_rfl
theorem Zc1 : tScal Try.prog 34 = true := by kernel_rfl
theorem ZaX : tSl Try.prog 34 9 1 16 = true := by kernel_rfl
theorem ZiI : tMap Try.prog 66 97 3 = true := by kernel_rfl
theorem tZ3 : Xm Try.prog 3 = some [.int .i64 0] := by kernel_rfl
theorem Zcm : tSl Try.prog 67 71 4 48 = true := by kernel_rfl
theorem Zk1 : JI Try.prog 71 = some [(0, 1), (1, 1), (2, 1), (3, 1)] := by kernel_rfl
theorem Zk6 : Zb7 Try.prog 71 = true := by kernel_rfl
theorem Zhe : Xm Try.prog 71 = some [.int .i64 0, .int .i64 0, .int .i64 0, .slice none 0 0] := by kernel_rfl
theorem tZ_71 : Try.prog.cellsOf 71 = 4 := by kernel_rfl
instance : SzD Try.prog 71 4 := ⟨tZ_71⟩
theorem Zeh : tAgg Try.prog 71 4 = true := by kernel_rfl
theorem Zc6 : tFld Try.prog 71 3 3 = true := by kernel_rfl
theorem Zg2 : tScal Try.prog 69 = true := by kernel_rfl
theorem Zig : Xm Try.prog 83 = some [.int .i64 0, .int .i64 0, .int .i64 0, .int .i64 0] := by kernel_rfl
theorem tZ_83 : Try.prog.cellsOf 83 = 4 := by kernel_rfl
instance : SzD Try.prog 83 4 := ⟨tZ_83⟩
theorem Zk5 : JI Try.prog 83 = some [(0, 1), (1, 1), (2, 1), (3, 1)] := by kernel_rfl
theorem Zk3 : Zb7 Try.prog 83 = true := by kernel_rfl
theorem Zgv : tAgg Try.prog 83 4 = true := by kernel_rfl
theorem ZfL : tSl Try.prog 69 83 4 32 = true := by kernel_rfl
theorem ZlG : Zcn Try.prog 97 [.i .i64, .i .i64, .i .i64] = true := by kernel_rfl
theorem Zmc : ZgX Try.prog 3 = some (.int .i64 0) := by kernel_rfl
theorem Zfm : tFld Try.prog 83 3 3 = true := by kernel_rfl
theorem Zhc : tFld Try.prog 83 0 0 = true := by kernel_rfl
theorem Zhl : tFld Try.prog 83 1 1 = true := by kernel_rfl
theorem Zgr : tFld Try.prog 83 2 2 = true := by kernel_rfl
theorem ZlB : JI Try.prog 97 = some [(0, 1), (1, 1), (2, 1)] := by kernel_rfl
theorem Zl4 : Zb7 Try.prog 97 = true := by kernel_rfl
theorem Zl7 : Xm Try.prog 97 = some [.int .i64 0, .int .i64 0, .int .i64 0] := by kernel_rfl
theorem Zkr : tSl Try.prog 94 97 3 24 = true := by kernel_rfl
theorem tZ_97 : Try.prog.cellsOf 97 = 3 := by kernel_rfl
instance : SzD Try.prog 97 3 := ⟨tZ_97⟩
theorem ZkH : tAgg Try.prog 97 3 = true := by kernel_rfl
theorem tZ_66 : Try.prog.cellsOf 66 = 1 := by kernel_rfl
instance : SzD Try.prog 66 1 := ⟨tZ_66⟩
theorem Zmo : Xm Try.prog 25 = some [.slice none 0 0] := by kernel_rfl
theorem tZ_25 : Try.prog.cellsOf 25 = 1 := by kernel_rfl
instance : SzD Try.prog 25 1 := ⟨tZ_25⟩
theorem Zit : tPtr Try.prog 43 = true := by kernel_rfl
theorem tZ_31 : Try.prog.cellsOf 31 = 2 := by kernel_rfl
instance : SzD Try.prog 31 2 := ⟨tZ_31⟩
theorem Zk8 : tScal Try.prog 25 = true := by kernel_rfl
theorem ZhK : JI Try.prog 31 = some [(0, 1), (1, 1)] := by kernel_rfl
theorem Zhv : Zb7 Try.prog 31 = true := by kernel_rfl
theorem Zj9 : Xm Try.prog 31 = some [.string ⟨#[]⟩, .int .i64 0] := by kernel_rfl
theorem Zd3 : tSl Try.prog 25 31 2 24 = true := by kernel_rfl
theorem ZkY : Zcn Try.prog 49 [.i .i64, .i .i64, .i .i64, .i .i64] = true := by kernel_rfl
theorem Ziz : tMap Try.prog 75 108 4 = true := by kernel_rfl
theorem Zlk : tIntA Try.prog 108 3 3 .i64 = true := by kernel_rfl
theorem Zmf : ZgX Try.prog 4 = some (.bool false) := by kernel_rfl
theorem ZlK : tArr Try.prog 108 3 3 1 = true := by kernel_rfl
theorem ZkT : Xm Try.prog 108 = some [.int .i64 0, .int .i64 0, .int .i64 0] := by kernel_rfl
theorem tZ_108 : Try.prog.cellsOf 108 = 3 := by kernel_rfl
instance : SzD Try.prog 108 3 := ⟨tZ_108⟩
theorem ZjL : tAgg Try.prog 108 3 = true := by kernel_rfl
theorem tZ_75 : Try.prog.cellsOf 75 = 1 := by kernel_rfl
instance : SzD Try.prog 75 1 := ⟨tZ_75⟩
theorem ZkU : JI Try.prog 36 = some [(0, 1), (1, 1), (2, 1), (3, 1), (4, 1), (5, 1), (6, 1), (7, 1)] := by kernel_rfl
theorem Zk2 : Zb7 Try.prog 36 = true := by kernel_rfl
theorem Zl0 : tAgg Try.prog 31 2 = true := by kernel_rfl
theorem ZlR : Zcn Try.prog 31 [.s, .i .i64] = true := by kernel_rfl
theorem Zl5 : JI Try.prog 49 = some [(0, 1), (1, 1), (2, 1), (3, 1)] := by kernel_rfl
theorem ZlY : Zb7 Try.prog 49 = true := by kernel_rfl
theorem Zl6 : JI Try.prog 24 = some [(0, 1), (1, 1)] := by kernel_rfl
theorem Zl8 : Zb7 Try.prog 24 = true := by kernel_rfl
theorem Zky : Xm Try.prog 53 = some [.slice none 0 0, .slice none 0 0, .slice none 0 0, .slice none 0 0, .slice none 0 0, .slice none 0 0, .slice none 0 0, .slice none 0 0, .slice none 0 0, .slice none 0 0, .slice none 0 0, .slice none 0 0, .slice none 0 0, .slice none 0 0, .slice none 0 0, .slice none 0 0] := by kernel_rfl
theorem tZ_53 : Try.prog.cellsOf 53 = 16 := by kernel_rfl
instance : SzD Try.prog 53 16 := ⟨tZ_53⟩
theorem ZdJ : tAgg Try.prog 53 16 = true := by kernel_rfl
theorem ZeZ : tArr Try.prog 53 16 52 1 = true := by kernel_rfl
theorem ZeT : tScal Try.prog 52 = true := by kernel_rfl
theorem Zhf : tFld Try.prog 71 0 0 = true := by kernel_rfl
theorem Zfz : Xm Try.prog 81 = some [.int .i64 0, .int .i64 0, .nilFunc, .nilFunc] := by kernel_rfl
theorem tZ_81 : Try.prog.cellsOf 81 = 4 := by kernel_rfl
instance : SzD Try.prog 81 4 := ⟨tZ_81⟩
theorem Zmb : Xm Try.prog 78 = some [.nilFunc] := by kernel_rfl
theorem tZ_78 : Try.prog.cellsOf 78 = 1 := by kernel_rfl
instance : SzD Try.prog 78 1 := ⟨tZ_78⟩
theorem Zlf : tScal Try.prog 78 = true := by kernel_rfl
theorem Zmk : Xm Try.prog 99 = some [.nilFunc] := by kernel_rfl
theorem tZ_99 : Try.prog.cellsOf 99 = 1 := by kernel_rfl
instance : SzD Try.prog 99 1 := ⟨tZ_99⟩
theorem ZkJ : tScal Try.prog 99 = true := by kernel_rfl
theorem Zbf : tMap Try.prog 101 3 100 = true := by kernel_rfl
theorem tI3 : tInt Try.prog 3 .i64 = true := by kernel_rfl
theorem tZ_101 : Try.prog.cellsOf 101 = 1 := by kernel_rfl
instance : SzD Try.prog 101 1 := ⟨tZ_101⟩
theorem Zfg : ZgX Try.prog 100 = some .nilFunc := by kernel_rfl
theorem ZiF : JI Try.prog 81 = some [(0, 1), (1, 1), (2, 1), (3, 1)] := by kernel_rfl
theorem Ziu : Zb7 Try.prog 81 = true := by kernel_rfl
theorem Zbi : tAgg Try.prog 81 4 = true := by kernel_rfl
theorem Zlg : tFld Try.prog 81 0 0 = true := by kernel_rfl
theorem Zlo : tFld Try.prog 81 1 1 = true := by kernel_rfl
theorem Zle : tFld Try.prog 81 2 2 = true := by kernel_rfl
theorem Zkz : Zjl Try.prog 81 3 3 = true := by kernel_rfl
theorem Zld : tFld Try.prog 71 1 1 = true := by kernel_rfl
theorem ZkS : JI Try.prog 60 = some [(0, 1), (1, 1), (2, 1), (3, 1)] := by kernel_rfl
theorem ZkV : Zb7 Try.prog 60 = true := by kernel_rfl
theorem ZlQ : Xm Try.prog 60 = some [.int .i64 0, .int .i64 0, .int .i64 0, .bool false] := by kernel_rfl
theorem ZkM : tSl Try.prog 56 60 4 32 = true := by kernel_rfl
theorem tZ_60 : Try.prog.cellsOf 60 = 4 := by kernel_rfl
instance : SzD Try.prog 60 4 := ⟨tZ_60⟩
theorem Zmi : tAgg Try.prog 60 4 = true := by kernel_rfl
theorem ZlN : Zcn Try.prog 60 [.i .i64, .i .i64, .i .i64, .b] = true := by kernel_rfl
def gl0 : Gl := ⟨0, []⟩
def R49 (x : api_Part) : List AV := [.int .i64 x.Frame, .int .i64 x.Word, .int .i64 x.Low, .int .i64 x.Bits]
def R9 (x : Str) : List AV := [.str x]
def R36 (x : api_Param) : List AV := [.str x.Name, .int .i64 x.Kind, .sl 49 (List.map R49 x.Parts), .int .i64 x.First, .int .i64 x.Every, .int .i64 x.Times, .int .i64 x.Step, .sl 9 (List.map R9 x.Names)]
def R24 (x : api_Map) : List AV := [.int .i64 x.Version, .sl 36 (List.map R36 x.Params)]
def R3 (x : Int) : List AV := [.int .i64 x]
theorem D3 (x : Int) : (R3 x).length = Try.prog.cellsOf 3 ∧ (R3 x).all datB = true := ⟨tZ_3.symm, rfl⟩
instance : RowD Try.prog 3 R3 := ⟨D3⟩
def R83 (x : api_Place) : List AV := [.int .i64 x.Frame, .int .i64 x.Word, .int .i64 x.Low, .int .i64 x.Bits]
theorem D83 (x : api_Place) : (R83 x).length = Try.prog.cellsOf 83 ∧ (R83 x).all datB = true := ⟨tZ_83.symm, rfl⟩
instance : RowD Try.prog 83 R83 := ⟨D83⟩
def R71 (x : api_Cell) : List AV := [.int .i64 x.Param, .int .i64 x.Index, .int .i64 x.Frame, .sl 83 (List.map R83 x.Places)]
theorem D71 (x : api_Cell) : (R71 x).length = Try.prog.cellsOf 71 ∧ (R71 x).all datB = true := ⟨tZ_71.symm, rfl⟩
instance : RowD Try.prog 71 R71 := ⟨D71⟩
def Zac (x : layout_bit) : AV := .agg [.int .i64 x.frame, .int .i64 x.word, .int .i64 x.bit]
theorem ZkX : KeyOK Try.prog 97 Zac kq_layout_bit := Zid ZlG (fun _ => rfl)
def FV3 (x : Int) : AV := .int .i64 x
def R97 (x : layout_bit) : List AV := [.int .i64 x.frame, .int .i64 x.word, .int .i64 x.bit]
theorem D97 (x : layout_bit) : (R97 x).length = Try.prog.cellsOf 97 ∧ (R97 x).all datB = true := ⟨tZ_97.symm, rfl⟩
instance : RowD Try.prog 97 R97 := ⟨D97⟩
def R31 (x : api_MapChange) : List AV := [.str x.Name, .int .i64 x.Kind]
theorem D31 (x : api_MapChange) : (R31 x).length = Try.prog.cellsOf 31 ∧ (R31 x).all datB = true := ⟨tZ_31.symm, rfl⟩
instance : RowD Try.prog 31 R31 := ⟨D31⟩
def C3 (x : Int) : AV := .int .i64 x
def Q7 (x : Vector Int 3) : AV := .agg (List.map C3 x.toList)
theorem Zka : KeyOK Try.prog 108 Q7 kqV := ZkF (fun _ => rfl) Zlk
def FV4 (x : Bool) : AV := .bool x
def C52 (x : List Int) : AV := .sl 3 (List.map R3 x)
def FK3 (x : Int) : AV := .int .i64 x
theorem ZfO : KeyOK Try.prog 3 FK3 kqI := ZkL (fun _ => rfl) tI3
def ZbL (x : Fv (Int → Option Int)) : Prop := x.c.all datB = true ∧ ∀ z0 r, x.fn z0 = some r → CSpec Try.prog gl0 x.f ([.int .i64 z0] ++ x.c) (.int .i64 r)
def ZbJ (x : Fv (Int → Option (Int × Bool))) : Prop := x.c.all datB = true ∧ ∀ z0 r, x.fn z0 = some r → CSpec Try.prog gl0 x.f ([.int .i64 z0] ++ x.c) (.tuple [.int .i64 r.1, .bool r.2])
def R60 (x : api_Reading) : List AV := [.int .i64 x.Param, .int .i64 x.Index, .int .i64 x.Value, .bool x.Good]
theorem D60 (x : api_Reading) : (R60 x).length = Try.prog.cellsOf 60 ∧ (R60 x).all datB = true := ⟨tZ_60.symm, rfl⟩
instance : RowD Try.prog 60 R60 := ⟨D60⟩
theorem Z8 {n : Int} {low : Int} {high : Int} {r : Bool} (h : ZQ n low high = some r) :
 CSpec Try.prog gl0 22 [.int .i64 n, .int .i64 low, .int .i64 high] (.bool r) := by
 unfold ZQ at h
 replace h := Qh h
 refine So Try.func22 Y fun w0 A=>Tr<|Ra Y<|Za<|Tr<|Rm Y<|Rm Y<|R2 Zb9 Y<|Rm Y<|Rq Y (.guarded ((decide (low ≤ n)) == true) Y Y Y Y fun h => Zm<|ov Y)<|Rq Y (.guarded ((decide (low ≤ n)) == true) Y Y Y Y fun h => Zm<|ov Y)<|Rq Y (.guarded ((decide (low ≤ n)) == true) Y Y Y Y fun h => Zgx (ow Y h)<|ow Y h)<|Rq Y (XF (ov Y) fun hp=>ow Y<|gT hp)<|Ra Y<|Za<|?_
 obtain rfl := rt h
 exact Zk (Zq Y (.one<|rb Y))
theorem ZjU {s : Str} {f : Int → Option Bool} {r : Bool} {f_f : FuncId} {f_c : List AV} (f_d : f_c.all datB = true) (f_h : ∀ (z0 : Int) z, f z0 = some z → CSpec Try.prog gl0 f_f ([.int .i32 z0] ++ f_c) (.bool z)) (h : JP s f = some r) :
    CSpec Try.prog gl0 68 [.str s, .fn f_f f_c] (.bool r) :=
  ZfQ (by kernel_rfl) (fun g lb eg p s w hp => Any.strings_ContainsFunc_grows Try.laysGw17 g lb eg p s w hp) f_d f_h h
theorem Zeu {c_ : Int} {r : Bool} (h : Zal c_ = some r) :
 CSpec Try.prog gl0 69 [.int .i32 c_] (.bool r) := by
 unfold Zal at h
 replace h := Qh h
 refine So Try.func69 Y fun w0 A=>Tr<|Ra Y<|Za<|Tr<|Rm Y<|R2 Zb9 Y<|Rm Y<|Rq Y (.guarded ((decide (97 ≤ c_)) == true) Y Y Y Y fun h => Zm<|ov Y)<|Rq Y (.guarded ((decide (97 ≤ c_)) == true) Y Y Y Y fun h => Zgx (ow Y h)<|ov Y)<|Rq Y (XF (ov Y) fun hp=>ow Y<|gT hp)<|Rm Y<|Rq Y (.guarded (((decide (97 ≤ c_)) && (decide (c_ ≤ 122))) == false) Y Y Y Y fun h => Zm<|ov Y)<|Rq Y (.guarded (((decide (97 ≤ c_)) && (decide (c_ ≤ 122))) == false) Y Y Y Y fun h => Zb9 (ow Y h)<|ov Y)<|Rq Y (.guarded (((decide (97 ≤ c_)) && (decide (c_ ≤ 122))) == false) Y Y Y Y fun h => Zm<|ow Y h)<|Rq Y (.guarded2 ((((decide (97 ≤ c_)) && (decide (c_ ≤ 122))) == false) && ((decide (48 ≤ c_)) == true)) Y Y Y Y fun h => Zm<|ov Y)<|Rq Y (.guarded2 ((((decide (97 ≤ c_)) && (decide (c_ ≤ 122))) == false) && ((decide (48 ≤ c_)) == true)) Y Y Y Y fun h => Zgx (ow Y h)<|ov Y)<|Rq Y (.guarded (((decide (97 ≤ c_)) && (decide (c_ ≤ 122))) == false) Y Y Y Y fun h => XF (ow Y h) fun hp=>ow Y<|gA h<|gT hp)<|Rq Y (QZ (ov Y) fun hp=>ow Y<|gF hp)<|Rm Y<|Rq Y (.guarded ((((decide (97 ≤ c_)) && (decide (c_ ≤ 122))) || ((decide (48 ≤ c_)) && (decide (c_ ≤ 57)))) == false) Y Y Y Y fun h => Zm<|ov Y)<|Rq Y (.guarded ((((decide (97 ≤ c_)) && (decide (c_ ≤ 122))) || ((decide (48 ≤ c_)) && (decide (c_ ≤ 57)))) == false) Y Y Y Y fun h => QQ (ow Y h)<|ov Y)<|Rq Y (QZ (ov Y) fun hp=>ow Y<|gF hp)<|R1 Xb Y<|Ra Y<|Za<|?_
 obtain rfl := rt h
 exact Zk (Zq Y (.one<|rb Y))
theorem ZcF {s : Str} {r : Bool} (h : XK s = some r) :
 CSpec Try.prog gl0 39 [.str s] (.bool r) := by
 unfold XK at h
 replace h := Qh h
 refine So Try.func39 Y fun w0 A=>Tr<|Ra Y<|Za<|Zh<|K1 0 Y<|Tr<|Rm Y<|Rq Y (Zdt (ov Y) ZfA Y)<|R2 ZH Y<|Rm Y<|Rq Y (.guarded ((decide ((s.length : Int) < 1)) == false) Y Y Y Y fun h => Zm<|ov Y)<|Rq Y (.guarded ((decide ((s.length : Int) < 1)) == false) Y Y Y Y fun h => Zdt (ow Y h) ZfA Y)<|Rq Y (.guarded ((decide ((s.length : Int) < 1)) == false) Y Y Y Y fun h => Ji (ow Y h)<|ov Y)<|Rq Y (QZ (ov Y) fun hp=>ow Y<|gF hp)<|Rm Y<|Rq Y (.guarded (((decide ((s.length : Int) < 1)) || (decide (30 < (s.length : Int)))) == false) Y Y Y Y fun h => Zm<|ov Y)<|bE h fun b h_b h=>Rq Y (.guarded (((decide ((s.length : Int) < 1)) || (decide (30 < (s.length : Int)))) == false) Y Y Y Y fun h => Zf0 (ow Y h) (ov Y) ZfA<|gdT h_b h)<|Rq Y (.guarded (((decide ((s.length : Int) < 1)) || (decide (30 < (s.length : Int)))) == false) Y Y Y Y fun h => ZH (ow Y h)<|ov Y)<|Rq Y (QZ (ov Y) fun hp=>ow Y<|gF hp)<|Rm Y<|Rq Y (.guarded ((((decide ((s.length : Int) < 1)) || (decide (30 < (s.length : Int)))) || (decide (b < 97))) == false) Y Y Y Y fun h => Zm<|ov Y)<|bE h fun b2 h_b2 h=>Rq Y (.guarded ((((decide ((s.length : Int) < 1)) || (decide (30 < (s.length : Int)))) || (decide (b < 97))) == false) Y Y Y Y fun h => Zf0 (ow Y h) (ov Y) ZfA<|gdT h_b2 h)<|Rq Y (.guarded ((((decide ((s.length : Int) < 1)) || (decide (30 < (s.length : Int)))) || (decide (b < 97))) == false) Y Y Y Y fun h => Ji (ow Y h)<|ov Y)<|Rq Y (QZ (ov Y) fun hp=>ow Y<|gF hp)<|Za<|K2 0 20 Y<|If h Y (fun h=>?_) fun h=>?_
 ·
  refine K0<|Tr<|Ra Y<|Za<|?_
  obtain rfl := rt h
  exact Zk (Zq Y (.one<|rb Y))
 ·
  refine Zd<|K1 0 Y<|Tr<|Rm Y<|bE h fun y h_y h=>Rq Y (Zp (ZjU Y (fun z0 _ hz=>Zeu hz) h_y)<|.cons (ov Y) (.b Y)<|.cons (ov Y) .fn .nil)<|R1 Xb Y<|Ra Y<|Za<|?_
  obtain rfl := rt h
  exact Zk (Zq Y (.one<|rb Y))
theorem Xf {p : api_Param} {r : Int} (h : Z6 p = some r) :
 CSpec Try.prog gl0 12 [.agg [.str p.Name, .int .i64 p.Kind, .sl 49 (List.map R49 p.Parts), .int .i64 p.First, .int .i64 p.Every, .int .i64 p.Times, .int .i64 p.Step, .sl 9 (List.map R9 p.Names)]] (.int .i64 r) := by
 unfold Z6 at h
 replace h := Qh h
 refine So Try.func12 Y fun w0 A=>Tr<|Rq Y (Z3 (cva<|ov Y) Y tZ_36 Y)<|Ra Y<|Za<|K1 1 Y<|Tr<|Ra Y<|Za<|I1 (fun n=>⟨[(3, .int .i64 n)], []⟩) h (fun h=>?_) fun n h=>?_
 ·
  refine Tr<|Rq Y (Zc (ov Y) XQ)<|Rq Y (Zb (ov Y) ZcE Y)<|Rl tZ_49 JD Y<|Rm Y<|Za<|Ze<|?_
  obtain ⟨r1, hl1, ho1⟩ := Qu h
  refine L2 (fun n2 i=>⟨[(3, .int .i64 n2), (7, .sl 49 (List.map R49 p.Parts)), (8, .int .i64 (p.Parts.length : Int)), (9, .int .i64 i)], []⟩) hl1 (ES []) fun n1 n2 i h=>?_
  unfold Qw at h
  refine Tr<|R2 ZH Y<|Za<|Zh<|If h Y (fun h=>?_) fun h=>?_
  ·
   exact Zd<|Zh<|Ze<|K4 3 7 8 9 Y<|Tr<|bE h fun x h_x h=>Rq Y (Zw (ov Y) (ov Y) JD h_x)<|Rq Y (Zg (ov Y) ZbR Y Y)<|Rx Y (Zr (row := [_, _, _, _]) 0 Y Zgz Y tZ_49)<|Rx Y (Zo (ov Y) (ov Y) (Zl ZbR Y) Y Y Y (Nat.le_of_ble_eq_true Y) (Zf Y) Y)<|Za<|K5 3 5 7 8 9 Y<|Zs<|Rm Y<|Rq Y (Zi (ov Y) Y Y Zfn)<|Rq Y (Zj (ov Y) Y Y Y tS3 Y)<|R2 ZX Y<|Ra Y<|Za<|K4 3 7 8 9 Y<|Zs<|R2 ZX Y<|Rm Y<|Za<|⟨_, h, ES []⟩
  ·
   refine Zz<|?_
   replace h := lx h ▸ ho1
   exact ⟨_, h, ES []⟩
 ·
  refine Tr<|Rm Y<|Ra Y<|Za<|?_
  obtain rfl := rt h
  exact Zk (Zq Y (.one<|rb Y))
theorem ZcK {s : List Int} {v : Int} {r : Int} (h : Qx s v = some r) :
 CSpec Try.prog gl0 74 [.sl 3 (List.map R3 s), .int .i64 v] (.int .i64 r) := by
 unfold Qx at h
 replace h := Qh h
 refine So Try.func74 Y fun w0 A=>Tr<|Ra Y<|Za<|J0 (fun j => (.inr j)) ⟨[], []⟩ h (fun h=>?_) fun h=>?_
 ·
  refine K2 0 1 Y<|Tr<|Rm Y<|Rl tZ_3 ZaE Y<|Rm Y<|Za<|Ze<|?_
  obtain ⟨r1, hl1, ho1⟩ := Qu h
  refine L1 (fun i=>⟨[(0, .sl 3 (List.map R3 s)), (1, .int .i64 v), (7, .int .i64 (s.length : Int)), (8, .int .i64 i)], []⟩) hl1 (ES []) fun n1 i h=>?_
  unfold ZL at h
  refine Tr<|R2 ZH Y<|Za<|Zh<|If h Y (fun h=>?_) fun h=>?_
  ·
   refine Zd<|Zh<|Ze<|K4 0 1 7 8 Y<|Tr<|Rm Y<|Ra Y<|Za<|K5 0 1 5 7 8 Y<|Tr<|Rm Y<|Rm Y<|Rm Y<|bE h fun x h_x h=>Rq Y (Zw (ov Y) (ov Y) ZaE h_x)<|Rq Y (Zb (ov Y) tS3 Y)<|R2 QQ Y<|Za<|K6 0 1 5 7 8 16 Y<|If h Y (fun h=>?_) fun h=>?_
   ·
    refine K1 5 Y<|Tr<|Rm Y<|Ra Y<|Za<|?_
    replace h := lx h ▸ ho1
    obtain rfl := rt h
    exact Zk (Zq Y (.one<|rb Y))
   ·
    exact Zd<|K4 0 1 7 8 Y<|Zs<|R2 ZX Y<|Rm Y<|Za<|⟨_, h, ES []⟩
  ·
   refine Zz<|?_
   replace h := lx h ▸ ho1
   exact ⟨_, h, ES []⟩
 ·
  replace h := elr h
  replace h := t0i h
  refine Tr<|Ra Y<|Za<|?_
  obtain rfl := rt h
  exact Zk (Zq Y (.one<|rb Y))
theorem ZbZ {s : List Int} {v : Int} {r : Bool} (h : ZU s v = some r) :
 CSpec Try.prog gl0 70 [.sl 3 (List.map R3 s), .int .i64 v] (.bool r) := by
 unfold ZU at h
 replace h := Qh h
 refine So Try.func70 Y fun w0 A=>Tr<|Ra Y<|Za<|Tr<|Rm Y<|Rm Y<|bE h fun y h_y h=>Rq Y (Zp (ZcK h_y)<|.cons (ov Y) (.b Y)<|.cons (ov Y) (.b Y) .nil)<|R2 Zb9 Y<|Ra Y<|Za<|?_
 obtain rfl := rt h
 exact Zk (Zq Y (.one<|rb Y))
theorem ZdP {p : api_Param} {r : Int} (h : QC p = some r) :
 CSpec Try.prog gl0 40 [.agg [.str p.Name, .int .i64 p.Kind, .sl 49 (List.map R49 p.Parts), .int .i64 p.First, .int .i64 p.Every, .int .i64 p.Times, .int .i64 p.Step, .sl 9 (List.map R9 p.Names)]] (.int .i64 r) := by
 unfold QC at h
 replace h := Qh h
 refine So Try.func40 Y fun w0 A=>Tr<|Rq Y (Z3 (cva<|ov Y) Y tZ_36 Y)<|Ra Y<|Za<|Zh<|Ze<|K1 1 Y<|Tr<|Rq Y (Zc (ov Y) XQ)<|Rq Y (Zb (ov Y) ZcE Y)<|Rl tZ_49 JD Y<|R2 QQ Y<|Ra Y<|Za<|K2 1 8 Y<|If h Y (fun h=>?_) fun h=>?_
 ·
  refine K0<|Tr<|Ra Y<|Za<|?_
  obtain rfl := rt h
  exact Zk (Zq Y (.one<|rb Y))
 ·
  refine K1 1 Y<|Tr<|Rq Y (Zc (ov Y) XQ)<|Rq Y (Zb (ov Y) ZcE Y)<|Rl tZ_49 JD Y<|R2 Ji Y<|Ra Y<|Za<|K2 1 13 Y<|If h Y (fun h=>?_) fun h=>?_
  ·
   refine K0<|Tr<|Ra Y<|Za<|?_
   obtain rfl := rt h
   exact Zk (Zq Y (.one<|rb Y))
  ·
   refine Zd<|J0 (fun j => (.inr j)) ⟨[(1, .rp [.str p.Name, .int .i64 p.Kind, .sl 49 (List.map R49 p.Parts), .int .i64 p.First, .int .i64 p.Every, .int .i64 p.Times, .int .i64 p.Step, .sl 9 (List.map R9 p.Names)] 0)], []⟩ h (fun h=>?_) fun h=>?_
   ·
    refine K1 1 Y<|Tr<|Rq Y (Zc (ov Y) XQ)<|Rq Y (Zb (ov Y) ZcE Y)<|Rl tZ_49 JD Y<|Rm Y<|Za<|Ze<|?_
    obtain ⟨r1, hl1, ho1⟩ := Qu h
    refine L1 (fun i=>⟨[(1, .rp [.str p.Name, .int .i64 p.Kind, .sl 49 (List.map R49 p.Parts), .int .i64 p.First, .int .i64 p.Every, .int .i64 p.Times, .int .i64 p.Step, .sl 9 (List.map R9 p.Names)] 0), (19, .sl 49 (List.map R49 p.Parts)), (20, .int .i64 (p.Parts.length : Int)), (21, .int .i64 i)], []⟩) hl1 (ES []) fun n1 i h=>?_
    unfold ZP at h
    refine Tr<|R2 ZH Y<|Za<|Zh<|If h Y (fun h=>?_) fun h=>?_
    ·
     refine Zd<|Zh<|Ze<|K4 1 19 20 21 Y<|Tr<|bE h fun x h_x h=>Rq Y (Zw (ov Y) (ov Y) JD h_x)<|Rq Y (Zg (ov Y) ZbR Y Y)<|Rx Y (Zr (row := [_, _, _, _]) 0 Y Zgz Y tZ_49)<|Rx Y (Zo (ov Y) (ov Y) (Zl ZbR Y) Y Y Y (Nat.le_of_ble_eq_true Y) (Zf Y) Y)<|Za<|K5 1 4 19 20 21 Y<|Tr<|Rq Y (Zi (ov Y) Y Y Zfq)<|Rq Y (Zj (ov Y) Y Y Y tS3 Y)<|bE h fun y h_y h=>Rq Y (Zp (Z8 h_y)<|.cons (ov Y) (.b Y)<|.cons (ov Y) (.b Y)<|.cons (ov Y) (.b Y) .nil)<|R1 Xb Y<|Rm Y<|Rq Y (.guarded ((!y) == false) Y Y Y Y fun h => Zi (ov Y) Y Y Zfu)<|Rq Y (.guarded ((!y) == false) Y Y Y Y fun h => Zj (ow Y h) Y Y Y tS3 Y)<|bE h fun y2 h_y2 h=>Rq Y (.guarded ((!y) == false) Y Y Y Y fun h => Zp (Z8<|gdT h_y2 h)<|.cons (ow Y h) (.b Y)<|.cons (ov Y) (.b Y)<|.cons (ov Y) (.b Y) .nil)<|Rq Y (.guarded ((!y) == false) Y Y Y Y fun h => Xb<|ow Y h)<|Rq Y (QZ (ov Y) fun hp=>ow Y<|gF hp)<|Rm Y<|Rq Y (.guarded (((!y) || (!y2)) == false) Y Y Y Y fun h => Zi (ov Y) Y Y Zfw)<|Rq Y (.guarded (((!y) || (!y2)) == false) Y Y Y Y fun h => Zj (ow Y h) Y Y Y tS3 Y)<|bE h fun y3 h_y3 h=>Rq Y (.guarded (((!y) || (!y2)) == false) Y Y Y Y fun h => Zp (Z8<|gdT h_y3 h)<|.cons (ow Y h) (.b Y)<|.cons (ov Y) (.b Y)<|.cons (ov Y) (.b Y) .nil)<|Rq Y (.guarded (((!y) || (!y2)) == false) Y Y Y Y fun h => Xb<|ow Y h)<|Rq Y (QZ (ov Y) fun hp=>ow Y<|gF hp)<|Rm Y<|Rq Y (.guarded ((((!y) || (!y2)) || (!y3)) == false) Y Y Y Y fun h => Zi (ov Y) Y Y Zfn)<|Rq Y (.guarded ((((!y) || (!y2)) || (!y3)) == false) Y Y Y Y fun h => Zj (ow Y h) Y Y Y tS3 Y)<|Rq Y (.guarded ((((!y) || (!y2)) || (!y3)) == false) Y Y Y Y fun h => Zi (ov Y) Y Y Zfw)<|Rq Y (.guarded ((((!y) || (!y2)) || (!y3)) == false) Y Y Y Y fun h => Zj (ow Y h) Y Y Y tS3 Y)<|Rq Y (.guarded ((((!y) || (!y2)) || (!y3)) == false) Y Y Y Y fun h => ZgG (ov Y) (ow Y h) Y)<|bE h fun y4 h_y4 h=>Rq Y (.guarded ((((!y) || (!y2)) || (!y3)) == false) Y Y Y Y fun h => Zp (Z8<|gdT h_y4 h)<|.cons (ow Y h) (.b Y)<|.cons (ov Y) (.b Y)<|.cons (ow Y h) (.b Y) .nil)<|Rq Y (.guarded ((((!y) || (!y2)) || (!y3)) == false) Y Y Y Y fun h => Xb<|ow Y h)<|Rq Y (QZ (ov Y) fun hp=>ow Y<|gF hp)<|Za<|K5 1 19 20 21 49 Y<|If h Y (fun h=>?_) fun h=>?_
     ·
      refine K0<|Tr<|Ra Y<|Za<|?_
      replace h := lx h ▸ ho1
      obtain rfl := rt h
      exact Zk (Zq Y (.one<|rb Y))
     ·
      exact Zd<|K4 1 19 20 21 Y<|Zs<|R2 ZX Y<|Rm Y<|Za<|⟨_, h, ES []⟩
    ·
     refine Zz<|?_
     replace h := lx h ▸ ho1
     exact ⟨_, h, ES []⟩
   ·
    replace h := elr h
    replace h := t0i h
    refine Zh<|Tr<|Rq Y (Zg (ov Y) Qi Y Y)<|bE h fun y5 h_y5 h=>Rq Y (Zp (Xf h_y5)<|.cons (ov Y) (.aggB Y) .nil)<|R2 Ji Y<|Za<|K2 1 53 Y<|If h Y (fun h=>?_) fun h=>?_
    ·
     refine K0<|Tr<|Ra Y<|Za<|?_
     obtain rfl := rt h
     exact Zk (Zq Y (.one<|rb Y))
    ·
     refine Zd<|K1 1 Y<|Tr<|R_q (.sl 3<|List.map R3 ([1, 2, 4, 8, 16] : List Int)) Y (Za6 ZaE (.cons (cvs (ov Y)<|Zn Y) Y (.cons (.b Y) .nil)<|.cons (cvs (ov Y)<|Zn Y) Y (.cons (.b Y) .nil)<|.cons (cvs (ov Y)<|Zn Y) Y (.cons (.b Y) .nil)<|.cons (cvs (ov Y)<|Zn Y) Y (.cons (.b Y) .nil)<|.cons (cvs (ov Y)<|Zn Y) Y (.cons (.b Y) .nil) .nil) Y Y)<|Rq Y (Zc (ov Y) ZbH)<|Rq Y (Zb (ov Y) tS3 Y)<|bE h fun y6 h_y6 h=>Rq Y (Zp (ZbZ h_y6)<|.cons (ov Y) (.b Y)<|.cons (ov Y) (.b Y) .nil)<|Ra Y<|Za<|Zh<|K2 1 5 Y<|Tr<|Rm Y<|R1 Xb Y<|Rm Y<|Rq Y (.guarded ((!y6) == false) Y Y Y Y fun h => Zc (ov Y) Zcl)<|Rq Y (.guarded ((!y6) == false) Y Y Y Y fun h => Zb (ow Y h) tS3 Y)<|Rq Y (.guarded ((!y6) == false) Y Y Y Y fun h => Zc (ov Y) ZbH)<|Rq Y (.guarded ((!y6) == false) Y Y Y Y fun h => Zb (ow Y h) tS3 Y)<|Rq Y (.guarded ((!y6) == false) Y Y Y Y fun h => ZgG (ow Y h) (ov Y) Y)<|bE h fun y7 h_y7 h=>Rq Y (.guarded ((!y6) == false) Y Y Y Y fun h => Zp (Z8<|gdT h_y7 h)<|.cons (ow Y h) (.b Y)<|.cons (ov Y) (.b Y)<|.cons (ow Y h) (.b Y) .nil)<|Rq Y (.guarded ((!y6) == false) Y Y Y Y fun h => Xb<|ow Y h)<|Rq Y (QZ (ov Y) fun hp=>ow Y<|gF hp)<|Rm Y<|Rq Y (.guarded (((!y6) || (!y7)) == false) Y Y Y Y fun h => Zc (ov Y) J3)<|Rq Y (.guarded (((!y6) || (!y7)) == false) Y Y Y Y fun h => Zb (ow Y h) tS3 Y)<|bE h fun y8 h_y8 h=>Rq Y (.guarded (((!y6) || (!y7)) == false) Y Y Y Y fun h => Zp (Z8<|gdT h_y8 h)<|.cons (ow Y h) (.b Y)<|.cons (ov Y) (.b Y)<|.cons (ov Y) (.b Y) .nil)<|Rq Y (.guarded (((!y6) || (!y7)) == false) Y Y Y Y fun h => Xb<|ow Y h)<|Rq Y (QZ (ov Y) fun hp=>ow Y<|gF hp)<|Rm Y<|Rq Y (.guarded ((((!y6) || (!y7)) || (!y8)) == false) Y Y Y Y fun h => Zc (ov Y) Zaa)<|Rq Y (.guarded ((((!y6) || (!y7)) || (!y8)) == false) Y Y Y Y fun h => Zb (ow Y h) tS3 Y)<|Rq Y (.guarded ((((!y6) || (!y7)) || (!y8)) == false) Y Y Y Y fun h => ZH (ow Y h)<|ov Y)<|Rq Y (QZ (ov Y) fun hp=>ow Y<|gF hp)<|Rm Y<|Rq Y (.guarded (((((!y6) || (!y7)) || (!y8)) || (decide (p.Step < 0))) == false) Y Y Y Y fun h => Zc (ov Y) Zaa)<|Rq Y (.guarded (((((!y6) || (!y7)) || (!y8)) || (decide (p.Step < 0))) == false) Y Y Y Y fun h => Zb (ow Y h) tS3 Y)<|Rq Y (.guarded (((((!y6) || (!y7)) || (!y8)) || (decide (p.Step < 0))) == false) Y Y Y Y fun h => QQ (ow Y h)<|ov Y)<|Rq Y (.guarded (((((!y6) || (!y7)) || (!y8)) || (decide (p.Step < 0))) == false) Y Y Y Y fun h => Zc (ov Y) J3)<|Rq Y (.guarded (((((!y6) || (!y7)) || (!y8)) || (decide (p.Step < 0))) == false) Y Y Y Y fun h => Zb (ow Y h) tS3 Y)<|Rq Y (.guarded (((((!y6) || (!y7)) || (!y8)) || (decide (p.Step < 0))) == false) Y Y Y Y fun h => QQ (ow Y h)<|ov Y)<|Rq Y (.guarded (((((!y6) || (!y7)) || (!y8)) || (decide (p.Step < 0))) == false) Y Y Y Y fun h => Zf4 .neq (by simp) (ow Y h) (ow Y h) tB4)<|Rq Y (QZ (ov Y) fun hp=>ow Y<|gF hp)<|Za<|K2 1 88 Y<|If h Y (fun h=>?_) fun h=>?_
     ·
      refine K0<|Tr<|Ra Y<|Za<|?_
      obtain rfl := rt h
      exact Zk (Zq Y (.one<|rb Y))
     ·
      refine Zd<|J0 (fun j => (.inr j)) ⟨[], []⟩ h (fun h=>?_) fun h=>?_
      ·
       refine K1 1 Y<|Tr<|Rq Y (Zc (ov Y) XQ)<|Rq Y (Zb (ov Y) ZcE Y)<|Rl tZ_49 JD Y<|Rm Y<|Za<|Ze<|?_
       obtain ⟨r2, hl2, ho2⟩ := Qu h
       refine L1 (fun i2=>⟨[(1, .rp [.str p.Name, .int .i64 p.Kind, .sl 49 (List.map R49 p.Parts), .int .i64 p.First, .int .i64 p.Every, .int .i64 p.Times, .int .i64 p.Step, .sl 9 (List.map R9 p.Names)] 0), (90, .sl 49 (List.map R49 p.Parts)), (91, .int .i64 (p.Parts.length : Int)), (92, .int .i64 i2)], []⟩) hl2 (ES []) fun n2 i2 h=>?_
       unfold Qe at h
       refine Tr<|R2 ZH Y<|Za<|Zh<|If h Y (fun h=>?_) fun h=>?_
       ·
        refine Zd<|Zh<|Ze<|K4 1 90 91 92 Y<|Tr<|bE h fun x2 h_x2 h=>Rq Y (Zw (ov Y) (ov Y) JD h_x2)<|Rq Y (Zg (ov Y) ZbR Y Y)<|Rx Y (Zr (row := [_, _, _, _]) 0 Y Zgz Y tZ_49)<|Rx Y (Zo (ov Y) (ov Y) (Zl ZbR Y) Y Y Y (Nat.le_of_ble_eq_true Y) (Zf Y) Y)<|Za<|K5 1 7 90 91 92 Y<|Tr<|Rq Y (Zc (ov Y) Zaa)<|Rq Y (Zb (ov Y) tS3 Y)<|R2 Ji Y<|Rm Y<|Rq Y (.guarded ((decide (60 < p.Step)) == false) Y Y Y Y fun h => Zi (ov Y) Y Y Zfu)<|Rq Y (.guarded ((decide (60 < p.Step)) == false) Y Y Y Y fun h => Zj (ow Y h) Y Y Y tS3 Y)<|Rq Y (.guarded ((decide (60 < p.Step)) == false) Y Y Y Y fun h => Zc (ov Y) J3)<|Rq Y (.guarded ((decide (60 < p.Step)) == false) Y Y Y Y fun h => Zb (ow Y h) tS3 Y)<|Rq Y (.guarded ((decide (60 < p.Step)) == false) Y Y Y Y fun h => ZgG (ow Y h) (ov Y) Y)<|Rq Y (.guarded ((decide (60 < p.Step)) == false) Y Y Y Y fun h => Zc (ov Y) Zaa)<|Rq Y (.guarded ((decide (60 < p.Step)) == false) Y Y Y Y fun h => Zb (ow Y h) tS3 Y)<|Rq Y (.guarded ((decide (60 < p.Step)) == false) Y Y Y Y fun h => ZjS (ow Y h) (ow Y h) Y)<|Rq Y (.guarded ((decide (60 < p.Step)) == false) Y Y Y Y fun h => ZiH (ow Y h) (ow Y h) Y)<|Rq Y (.guarded ((decide (60 < p.Step)) == false) Y Y Y Y fun h => Ji (ow Y h)<|ov Y)<|Rq Y (QZ (ov Y) fun hp=>ow Y<|gF hp)<|Za<|K5 1 90 91 92 110 Y<|If h Y (fun h=>?_) fun h=>?_
        ·
         refine K0<|Tr<|Ra Y<|Za<|?_
         replace h := lx h ▸ ho2
         obtain rfl := rt h
         exact Zk (Zq Y (.one<|rb Y))
        ·
         exact Zd<|K4 1 90 91 92 Y<|Zs<|R2 ZX Y<|Rm Y<|Za<|⟨_, h, ES []⟩
       ·
        refine Zz<|?_
        replace h := lx h ▸ ho2
        exact ⟨_, h, ES []⟩
      ·
       replace h := elr h
       replace h := t0i h
       refine Tr<|Ra Y<|Za<|?_
       obtain rfl := rt h
       exact Zk (Zq Y (.one<|rb Y))
theorem Zbx {s : List Str} {v : Str} {r : Int} (h : ZV s v = some r) :
 CSpec Try.prog gl0 75 [.sl 9 (List.map R9 s), .str v] (.int .i64 r) := by
 unfold ZV at h
 replace h := Qh h
 refine So Try.func75 Y fun w0 A=>Tr<|Ra Y<|Za<|J0 (fun j => (.inr j)) ⟨[], []⟩ h (fun h=>?_) fun h=>?_
 ·
  refine K2 0 1 Y<|Tr<|Rm Y<|Rl tZ_9 ZaX Y<|Rm Y<|Za<|Ze<|?_
  obtain ⟨r1, hl1, ho1⟩ := Qu h
  refine L1 (fun i=>⟨[(0, .sl 9 (List.map R9 s)), (1, .str v), (7, .int .i64 (s.length : Int)), (8, .int .i64 i)], []⟩) hl1 (ES []) fun n1 i h=>?_
  unfold ZB at h
  refine Tr<|R2 ZH Y<|Za<|Zh<|If h Y (fun h=>?_) fun h=>?_
  ·
   refine Zd<|Zh<|Ze<|K4 0 1 7 8 Y<|Tr<|Rm Y<|Ra Y<|Za<|K5 0 1 5 7 8 Y<|Tr<|Rm Y<|Rm Y<|Rm Y<|bE h fun x h_x h=>Rq Y (Zw (ov Y) (ov Y) ZaX h_x)<|Rq Y (Zb (ov Y) tS9 Y)<|R2 Zb5 Y<|Za<|K6 0 1 5 7 8 16 Y<|If h Y (fun h=>?_) fun h=>?_
   ·
    refine K1 5 Y<|Tr<|Rm Y<|Ra Y<|Za<|?_
    replace h := lx h ▸ ho1
    obtain rfl := rt h
    exact Zk (Zq Y (.one<|rb Y))
   ·
    exact Zd<|K4 0 1 7 8 Y<|Zs<|R2 ZX Y<|Rm Y<|Za<|⟨_, h, ES []⟩
  ·
   refine Zz<|?_
   replace h := lx h ▸ ho1
   exact ⟨_, h, ES []⟩
 ·
  replace h := elr h
  replace h := t0i h
  refine Tr<|Ra Y<|Za<|?_
  obtain rfl := rt h
  exact Zk (Zq Y (.one<|rb Y))
theorem ZaJ {s : List Str} {v : Str} {r : Bool} (h : ZG s v = some r) :
 CSpec Try.prog gl0 71 [.sl 9 (List.map R9 s), .str v] (.bool r) := by
 unfold ZG at h
 replace h := Qh h
 refine So Try.func71 Y fun w0 A=>Tr<|Ra Y<|Za<|Tr<|Rm Y<|Rm Y<|bE h fun y h_y h=>Rq Y (Zp (Zbx h_y)<|.cons (ov Y) (.b Y)<|.cons (ov Y) (.b Y) .nil)<|R2 Zb9 Y<|Ra Y<|Za<|?_
 obtain rfl := rt h
 exact Zk (Zq Y (.one<|rb Y))
theorem ZdC {p : api_Param} {r : Int} (h : QE p = some r) :
 CSpec Try.prog gl0 41 [.agg [.str p.Name, .int .i64 p.Kind, .sl 49 (List.map R49 p.Parts), .int .i64 p.First, .int .i64 p.Every, .int .i64 p.Times, .int .i64 p.Step, .sl 9 (List.map R9 p.Names)]] (.int .i64 r) := by
 unfold QE at h
 replace h := Qh h
 refine So Try.func41 Y fun w0 A=>Tr<|Rq Y (Z3 (cva<|ov Y) Y tZ_36 Y)<|Ra Y<|Za<|K1 1 Y<|Tr<|Rq Y (Zg (ov Y) Qi Y Y)<|bE h fun y h_y h=>Rq Y (Zp (Xf h_y)<|.cons (ov Y) (.aggB Y) .nil)<|Ra Y<|Za<|Zh<|K2 1 3 Y<|Tr<|Rq Y (Zc (ov Y) Jc)<|Rq Y (Zb (ov Y) tS3 Y)<|R2 QQ Y<|Rm Y<|Rq Y (.guarded ((decide (p.Kind = 4)) == true) Y Y Y Y fun h => Zm<|ov Y)<|bE h fun q h_q h=>Rq Y (.guarded ((decide (p.Kind = 4)) == true) Y Y Y Y fun h => Zia (ow Y h) (ov Y)<|gdT h_q h)<|Rq Y (.guarded ((decide (p.Kind = 4)) == true) Y Y Y Y fun h => Qd (ow Y h)<|ov Y)<|Rq Y (XF (ov Y) fun hp=>ow Y<|gT hp)<|Rm Y<|Rq Y (.guarded (((decide (p.Kind = 4)) && (!decide (q = 0))) == false) Y Y Y Y fun h => Zc (ov Y) Jc)<|Rq Y (.guarded (((decide (p.Kind = 4)) && (!decide (q = 0))) == false) Y Y Y Y fun h => Zb (ow Y h) tS3 Y)<|Rq Y (.guarded (((decide (p.Kind = 4)) && (!decide (q = 0))) == false) Y Y Y Y fun h => QQ (ow Y h)<|ov Y)<|Rq Y (.guarded (((decide (p.Kind = 4)) && (!decide (q = 0))) == false) Y Y Y Y fun h => Zm<|ow Y h)<|Rq Y (.guarded2 ((((decide (p.Kind = 4)) && (!decide (q = 0))) == false) && ((decide (p.Kind = 5)) == true)) Y Y Y Y fun h => Zm<|ov Y)<|Rq Y (.guarded2 ((((decide (p.Kind = 4)) && (!decide (q = 0))) == false) && ((decide (p.Kind = 5)) == true)) Y Y Y Y fun h => Qd (ow Y h)<|ov Y)<|Rq Y (.guarded (((decide (p.Kind = 4)) && (!decide (q = 0))) == false) Y Y Y Y fun h => XF (ow Y h) fun hp=>ow Y<|gA h<|gT hp)<|Rq Y (QZ (ov Y) fun hp=>ow Y<|gF hp)<|Rm Y<|Rq Y (.guarded ((((decide (p.Kind = 4)) && (!decide (q = 0))) || ((decide (p.Kind = 5)) && (!decide (y = 1)))) == false) Y Y Y Y fun h => Zc (ov Y) Jc)<|Rq Y (.guarded ((((decide (p.Kind = 4)) && (!decide (q = 0))) || ((decide (p.Kind = 5)) && (!decide (y = 1)))) == false) Y Y Y Y fun h => Zb (ow Y h) tS3 Y)<|Rq Y (.guarded ((((decide (p.Kind = 4)) && (!decide (q = 0))) || ((decide (p.Kind = 5)) && (!decide (y = 1)))) == false) Y Y Y Y fun h => QQ (ow Y h)<|ov Y)<|Rq Y (.guarded ((((decide (p.Kind = 4)) && (!decide (q = 0))) || ((decide (p.Kind = 5)) && (!decide (y = 1)))) == false) Y Y Y Y fun h => Zm<|ow Y h)<|Rq Y (.guarded2 (((((decide (p.Kind = 4)) && (!decide (q = 0))) || ((decide (p.Kind = 5)) && (!decide (y = 1)))) == false) && ((decide (p.Kind = 2)) == false)) Y Y Y Y fun h => Zc (ov Y) Jc)<|Rq Y (.guarded2 (((((decide (p.Kind = 4)) && (!decide (q = 0))) || ((decide (p.Kind = 5)) && (!decide (y = 1)))) == false) && ((decide (p.Kind = 2)) == false)) Y Y Y Y fun h => Zb (ow Y h) tS3 Y)<|Rq Y (.guarded2 (((((decide (p.Kind = 4)) && (!decide (q = 0))) || ((decide (p.Kind = 5)) && (!decide (y = 1)))) == false) && ((decide (p.Kind = 2)) == false)) Y Y Y Y fun h => QQ (ow Y h)<|ov Y)<|Rq Y (.guarded ((((decide (p.Kind = 4)) && (!decide (q = 0))) || ((decide (p.Kind = 5)) && (!decide (y = 1)))) == false) Y Y Y Y fun h => QZ (ow Y h) fun hp=>ow Y<|gA h<|gF hp)<|Rq Y (.guarded ((((decide (p.Kind = 4)) && (!decide (q = 0))) || ((decide (p.Kind = 5)) && (!decide (y = 1)))) == false) Y Y Y Y fun h => Zm<|ow Y h)<|Rq Y (.guarded2 (((((decide (p.Kind = 4)) && (!decide (q = 0))) || ((decide (p.Kind = 5)) && (!decide (y = 1)))) == false) && (((decide (p.Kind = 2)) || (decide (p.Kind = 3))) == true)) Y Y Y Y fun h => Zm<|ov Y)<|Rq Y (.guarded2 (((((decide (p.Kind = 4)) && (!decide (q = 0))) || ((decide (p.Kind = 5)) && (!decide (y = 1)))) == false) && (((decide (p.Kind = 2)) || (decide (p.Kind = 3))) == true)) Y Y Y Y fun h => QQ (ow Y h)<|ov Y)<|Rq Y (.guarded ((((decide (p.Kind = 4)) && (!decide (q = 0))) || ((decide (p.Kind = 5)) && (!decide (y = 1)))) == false) Y Y Y Y fun h => XF (ow Y h) fun hp=>ow Y<|gA h<|gT hp)<|Rq Y (QZ (ov Y) fun hp=>ow Y<|gF hp)<|Za<|K3 1 3 38 Y<|If h Y (fun h=>?_) fun h=>?_
 ·
  refine K0<|Tr<|Ra Y<|Za<|?_
  obtain rfl := rt h
  exact Zk (Zq Y (.one<|rb Y))
 ·
  refine Zd<|Zh<|K2 1 3 Y<|Tr<|Rq Y (Zc (ov Y) Jc)<|Rq Y (Zb (ov Y) tS3 Y)<|R2 Qd Y<|Za<|K3 1 3 41 Y<|If h Y (fun h=>?_) fun h=>?_
  ·
   refine Zh<|K1 1 Y<|Tr<|Rq Y (Zc (ov Y) X3)<|Rq Y (Zb (ov Y) Zc1 Y)<|Rl tZ_9 ZaX Y<|R2 Ji Y<|Za<|K1 45 Y<|If h Y (fun h=>?_) fun h=>?_
   ·
    refine K0<|Tr<|Ra Y<|Za<|?_
    obtain rfl := rt h
    exact Zk (Zq Y (.one<|rb Y))
   ·
    refine Zd<|K0<|Tr<|Ra Y<|Za<|?_
    obtain rfl := rt h
    exact Zk (Zq Y (.one<|rb Y))
  ·
   refine Zd<|Zh<|Ze<|K2 1 3 Y<|Tr<|Rq Y (Zc (ov Y) X3)<|Rq Y (Zb (ov Y) Zc1 Y)<|Rl tZ_9 ZaX Y<|R2 QQ Y<|Ra Y<|Za<|K3 1 3 46 Y<|If h Y (fun h=>?_) fun h=>?_
   ·
    refine K0<|Tr<|Ra Y<|Za<|?_
    obtain rfl := rt h
    exact Zk (Zq Y (.one<|rb Y))
   ·
    refine K2 1 3 Y<|Td md0<|Dq 0 Y (Zc (ov Y) X3)<|Dq 1 Y (Zb (ov Y) Zc1 Y)<|Dq 2 Y (Zeb (Xk (ov Y) tZ_9) ZaX<|Zbp _ _)<|D2 3 Ji Y<|D1 4 Zm Y<|Dq 5 Y (.guarded ((decide (64 < (p.Names.length : Int))) == false) Y Y Y Y fun h => Zc (ov Y) X3)<|Dq 6 Y (.guarded ((decide (64 < (p.Names.length : Int))) == false) Y Y Y Y fun h => Zb (ow Y h) Zc1 Y)<|Dq 7 Y (.guarded ((decide (64 < (p.Names.length : Int))) == false) Y Y Y Y fun h => Zeb (Xk (ow Y h) tZ_9) ZaX<|Zbp _ _)<|Dq 8 Y (.guarded ((decide (64 < (p.Names.length : Int))) == false) Y Y Y Y fun h => Zm<|ov Y)<|bE h fun q2 h_q2 h=>Dq 9 Y (.guarded ((decide (64 < (p.Names.length : Int))) == false) Y Y Y Y fun h => ZdD (ov Y) (ow Y h)<|gdT h_q2 h)<|Dq 10 Y (.guarded ((decide (64 < (p.Names.length : Int))) == false) Y Y Y Y fun h => Ji (ow Y h)<|ow Y h)<|Dq 11 Y (QZ (ov Y) fun hp=>ow Y<|gF hp)<|D1 12 Jg Y<|Dd<|K2 1 51 Y<|If h Y (fun h=>?_) fun h=>?_
    ·
     refine K0<|Tr<|Ra Y<|Za<|?_
     obtain rfl := rt h
     exact Zk (Zq Y (.one<|rb Y))
    ·
     refine Zd<|J0 (fun j => (.inr j)) ⟨[], []⟩ h (fun h=>?_) fun h=>?_
     ·
      refine K1 1 Y<|Tr<|Rq Y (Zc (ov Y) X3)<|Rq Y (Zb (ov Y) Zc1 Y)<|Rl tZ_9 ZaX Y<|Rm Y<|Za<|Ze<|?_
      obtain ⟨r1, hl1, ho1⟩ := Qu h
      refine L1 (fun i=>⟨[(1, .rp [.str p.Name, .int .i64 p.Kind, .sl 49 (List.map R49 p.Parts), .int .i64 p.First, .int .i64 p.Every, .int .i64 p.Times, .int .i64 p.Step, .sl 9 (List.map R9 p.Names)] 0), (65, .sl 9 (List.map R9 p.Names)), (66, .int .i64 (p.Names.length : Int)), (67, .int .i64 i)], []⟩) hl1 (ES []) fun n1 i h=>?_
      unfold Qg at h
      refine Tr<|R2 ZH Y<|Za<|Zh<|If h Y (fun h=>?_) fun h=>?_
      ·
       refine Zd<|Zh<|Ze<|K4 1 65 66 67 Y<|Tr<|Rm Y<|bE h fun x h_x h=>Rq Y (Zw (ov Y) (ov Y) ZaX h_x)<|Rq Y (Zb (ov Y) tS9 Y)<|Ra Y<|Ra Y<|Za<|Zh<|K6 1 4 5 65 66 67 Y<|Tr<|Rm Y<|bE h fun y2 h_y2 h=>Rq Y (Zp (ZcF h_y2)<|.cons (ov Y) (.b Y) .nil)<|R1 Xb Y<|Za<|K7 1 4 5 65 66 67 74 Y<|If h Y (fun h=>?_) fun h=>?_
       ·
        refine K0<|Tr<|Ra Y<|Za<|?_
        replace h := lx h ▸ ho1
        obtain rfl := rt h
        exact Zk (Zq Y (.one<|rb Y))
       ·
        refine Zd<|K6 1 4 5 65 66 67 Y<|Tr<|Rq Y (Zc (ov Y) X3)<|Rq Y (Zb (ov Y) Zc1 Y)<|Rm Y<|bE h fun l h_l h=>Rq Y (ZeG (ov Y) ZaX on (oi<|ov Y) h_l)<|Rm Y<|bE h fun y3 h_y3 h=>Rq Y (Zp (ZaJ h_y3)<|.cons (ov Y) (.b Y)<|.cons (ov Y) (.b Y) .nil)<|Za<|K5 1 65 66 67 80 Y<|If h Y (fun h=>?_) fun h=>?_
        ·
         refine K0<|Tr<|Ra Y<|Za<|?_
         replace h := lx h ▸ ho1
         obtain rfl := rt h
         exact Zk (Zq Y (.one<|rb Y))
        ·
         exact Zd<|K4 1 65 66 67 Y<|Zs<|R2 ZX Y<|Rm Y<|Za<|⟨_, h, ES []⟩
      ·
       refine Zz<|?_
       replace h := lx h ▸ ho1
       exact ⟨_, h, ES []⟩
     ·
      replace h := elr h
      replace h := t0i h
      refine Tr<|Ra Y<|Za<|?_
      obtain rfl := rt h
      exact Zk (Zq Y (.one<|rb Y))
theorem JQ {s : List api_Part} {f : api_Part → Option Bool} {r : Int} {f_f : FuncId} {f_c : List AV} (f_d : f_c.all datB = true) (f_h : ∀ (z0 : api_Part) z, f z0 = some z → CSpec Try.prog gl0 f_f ([.agg [.int .i64 z0.Frame, .int .i64 z0.Word, .int .i64 z0.Low, .int .i64 z0.Bits]] ++ f_c) (.bool z)) (h : ZF s f = some r) :
 CSpec Try.prog gl0 72 [.sl 49 (List.map R49 s), .fn f_f f_c] (.int .i64 r) := by
 unfold ZF at h
 replace h := Qh h
 refine So Try.func72 Y fun w0 A=>Tr<|Ra Y<|Za<|J0 (fun j => (.inr j)) ⟨[], []⟩ h (fun h=>?_) fun h=>?_
 ·
  refine K2 0 1 Y<|Tr<|Rm Y<|Rl tZ_49 JD Y<|Rm Y<|Za<|Ze<|?_
  obtain ⟨r1, hl1, ho1⟩ := Qu h
  refine L1 (fun i=>⟨[(0, .sl 49 (List.map R49 s)), (1, .fn f_f f_c), (7, .int .i64 (s.length : Int)), (8, .int .i64 i)], []⟩) hl1 (ES []<|sd 0 Y Y<|sr 1 Y (rFn<|rld f_d)<|sd 7 Y Y<|sd 8 Y Y sn) fun n1 i h=>?_
  unfold Zx at h
  refine Tr<|R2 ZH Y<|Za<|Zh<|If h Y (fun h=>?_) fun h=>?_
  ·
   refine Zd<|Zh<|Ze<|K4 0 1 7 8 Y<|Tr<|Rm Y<|Ra Y<|Za<|K5 0 1 5 7 8 Y<|Tr<|Rm Y<|Rm Y<|Rm Y<|bE h fun x h_x h=>Rq Y (Zw (ov Y) (ov Y) JD h_x)<|Rq Y (Zg (ov Y) ZbR Y Y)<|bE h fun y h_y h=>Rq Y (Jw (ov Y) f_d (f_h _ _ h_y)<|.cons (ov Y) (.aggB Y) .nil)<|Za<|K6 0 1 5 7 8 16 Y<|If h Y (fun h=>?_) fun h=>?_
   ·
    refine K1 5 Y<|Tr<|Rm Y<|Ra Y<|Za<|?_
    replace h := lx h ▸ ho1
    obtain rfl := rt h
    exact Zk (Zq Y (.one<|rb Y))
   ·
    exact Zd<|K4 0 1 7 8 Y<|Zs<|R2 ZX Y<|Rm Y<|Za<|⟨_, h, ES []<|sd 0 Y Y<|sr 1 Y (rFn<|rld f_d)<|sd 7 Y Y<|sd 8 Y Y sn⟩
  ·
   refine Zz<|?_
   replace h := lx h ▸ ho1
   exact ⟨_, h, ES []⟩
 ·
  replace h := elr h
  replace h := t0i h
  refine Tr<|Ra Y<|Za<|?_
  obtain rfl := rt h
  exact Zk (Zq Y (.one<|rb Y))
theorem Jq {s : List api_Part} {f : api_Part → Option Bool} {r : Bool} {f_f : FuncId} {f_c : List AV} (f_d : f_c.all datB = true) (f_h : ∀ (z0 : api_Part) z, f z0 = some z → CSpec Try.prog gl0 f_f ([.agg [.int .i64 z0.Frame, .int .i64 z0.Word, .int .i64 z0.Low, .int .i64 z0.Bits]] ++ f_c) (.bool z)) (h : Zy s f = some r) :
 CSpec Try.prog gl0 43 [.sl 49 (List.map R49 s), .fn f_f f_c] (.bool r) := by
 unfold Zy at h
 replace h := Qh h
 refine So Try.func43 Y fun w0 A=>Tr<|Ra Y<|Za<|Tr<|Rm Y<|Rm Y<|bE h fun y h_y h=>Rq Y (Zp (JQ f_d f_h h_y)<|.cons (ov Y) (.b Y)<|.cons (ov Y) (Dat.fnC<|.refl fun x hx => .b<|List.all_eq_true.1 f_d x hx) .nil)<|R2 Zb9 Y<|Ra Y<|Za<|?_
 obtain rfl := rt h
 exact Zk (Zq Y (.one<|rb Y))
theorem Zex {x : api_Part} {c0 : Int} {r : Bool} (h : QM x c0 = some r) :
 CSpec Try.prog gl0 44 [.agg [.int .i64 x.Frame, .int .i64 x.Word, .int .i64 x.Low, .int .i64 x.Bits], .rp [.int .i64 c0] 0] (.bool r) := by
 unfold QM at h
 replace h := Qh h
 refine So Try.func44 Y fun w0 A=>Tr<|Rq Y (Z3 (cva<|ov Y) Y tZ_49 Y)<|Ra Y<|Za<|K3 1 2 3 Y<|Tr<|Rq Y (Zb (ov Y) tS3 Y)<|Rq Y (Zc (ov Y) Zfq)<|Rq Y (Zb (ov Y) tS3 Y)<|R2 ZX Y<|R2 Zb9 Y<|Ra Y<|Za<|?_
 obtain rfl := rt h
 exact Zk (Zq Y (.one<|rb Y))
theorem ZcM {p : api_Param} {r : (List Int)} (h : Xc p = some r) :
 CSpec Try.prog gl0 26 [.agg [.str p.Name, .int .i64 p.Kind, .sl 49 (List.map R49 p.Parts), .int .i64 p.First, .int .i64 p.Every, .int .i64 p.Times, .int .i64 p.Step, .sl 9 (List.map R9 p.Names)]] (.sl 3 (List.map R3 r)) := by
 unfold Xc at h
 replace h := Qh h
 refine So Try.func26 Y fun w0 A=>Tr<|Rq Y (Z3 (cva<|ov Y) Y tZ_36 Y)<|Ra Y<|Za<|K1 1 Y<|Tr<|Ra Y<|Za<|I1 (fun out=>⟨[(3, .own 0 out.length)], [some ⟨3, List.map R3 out⟩]⟩) h (fun h=>?_) fun out h=>?_
 ·
  refine Tr<|Rq Y (Zc (ov Y) Zcl)<|Rq Y (Zb (ov Y) tS3 Y)<|Rx Y (Zr (row := [_]) 0 Y tZ3 Y tZ_3)<|Rx Y (Zo (ov Y) (ov Y) (QR tS3) Y Y Y (Nat.le_of_ble_eq_true Y) (Zf Y) Y)<|Za<|Ze<|?_
  obtain ⟨r1, hl1, ho1⟩ := Qu h
  refine L2 (fun out2 f=>⟨[(1, .rp [.str p.Name, .int .i64 p.Kind, .sl 49 (List.map R49 p.Parts), .int .i64 p.First, .int .i64 p.Every, .int .i64 p.Times, .int .i64 p.Step, .sl 9 (List.map R9 p.Names)] 0), (3, .own 0 out2.length), (4, .ptr 1 1 0 0)], [some ⟨3, List.map R3 out2⟩, some ⟨3, [[.int .i64 f]]⟩]⟩) hl1 (ES [none, some 0]) fun n1 out2 f h=>?_
  unfold Z7 at h
  refine Zh<|Tr<|Rq Y (Zj (ov Y) Y Y Y tS3 Y)<|R2 ZH Y<|Za<|K4 1 3 4 8 Y<|If h Y (fun h=>?_) fun h=>?_
  ·
   refine Zd<|I1 (fun out3=>⟨[(1, .rp [.str p.Name, .int .i64 p.Kind, .sl 49 (List.map R49 p.Parts), .int .i64 p.First, .int .i64 p.Every, .int .i64 p.Times, .int .i64 p.Step, .sl 9 (List.map R9 p.Names)] 0), (3, .own 0 out3.length), (4, .rp [.int .i64 f] 0)], [some ⟨3, List.map R3 out3⟩]⟩) h (fun h=>?_) fun out3 h=>?_
   ·
    refine Ze<|K3 1 3 4 Y<|Tr<|Rq Y (Zc (ov Y) XQ)<|Rq Y (Zb (ov Y) ZcE Y)<|Zec (Ent.sel [some 0, none] (sd 1 Y Y<|sr 3 Y (.own (r' := 0) _ Y)<|sr 4 Y (.frp ⟨Y, ⟨_, Y⟩, Y, Y⟩)<|sd 13 Y Y<|sd 14 Y Y sn) (.cons Y (roM D3)<|.row 3 .nil) Y Y)<|Rq Y (Qt<|.cons (ov Y) .nil)<|bE h fun y h_y h=>Rq Y (Zp (Jq Y (fun z0 _ hz=>Zex hz) h_y)<|.cons (ov Y) (.b Y)<|.cons (ov Y) (.fnC<|.cons (.b Y) .nil) .nil)<|R1 Xb Y<|Za<|K4 1 3 4 17 Y<|If h Y (fun h=>?_) fun h=>?_
    ·
     exact K3 1 3 4 Y<|Zs<|Rm Y<|Rq Y (Zb (ov Y) tS3 Y)<|R_q (.sl 3<|List.map R3 ([f] : List Int)) Y (Za6 ZaE (.cons (cvs (ov Y)<|Zn Y) Y (.cons (.b Y) .nil) .nil) Y Y)<|bE h fun l h_l h=>Rx Y (Xg (ov Y) (Xk (ov Y) tZ_3) ZaE Y Y Y (fun _=>Zf Y) Y h_l)<|Ra Y<|Za<|⟨_, h, ES [some 0]⟩
    ·
     exact Zd<|⟨_, h, ES [some 0]⟩
   ·
    exact Zh<|Tr<|Rq Y (Zb (ov Y) tS3 Y)<|Za<|Zs<|Rx Y (Zr (row := [_]) 1 Y tZ3 Y tZ_3)<|Rx Y (Zo (ov Y) (ov Y) (QR tS3) Y Y Y (Nat.le_of_ble_eq_true Y) (Zf Y) Y)<|Za<|K3 1 3 4 Y<|Zs<|Rq Y (Zj (ov Y) Y Y Y tS3 Y)<|Rq Y (Zc (ov Y) ZbH)<|Rq Y (Zb (ov Y) tS3 Y)<|R2 ZX Y<|Rx Y (Zo (ov Y) (ov Y) (QR tS3) Y Y Y (Nat.le_of_ble_eq_true Y) (Zf Y) Y)<|Za<|⟨_, h, ES [some 0, some 1]⟩
  ·
   refine Zz<|?_
   replace h := lx h ▸ ho1
   exact ⟨_, h, ES [some 0]⟩
 ·
  refine Tr<|Rm Y<|Ra Y<|Za<|?_
  obtain rfl := rt h
  exact Zk (Zq Y (.one<|.tmp Y<|View.ownM Y Y D3))
theorem ZeO {p : api_Param} {x : api_Part} {f : Int} {j : Int} {r : api_Place} (h : Xl p x f j = some r) :
 CSpec Try.prog gl0 45 [.agg [.str p.Name, .int .i64 p.Kind, .sl 49 (List.map R49 p.Parts), .int .i64 p.First, .int .i64 p.Every, .int .i64 p.Times, .int .i64 p.Step, .sl 9 (List.map R9 p.Names)], .agg [.int .i64 x.Frame, .int .i64 x.Word, .int .i64 x.Low, .int .i64 x.Bits], .int .i64 f, .int .i64 j] (.agg [.int .i64 r.Frame, .int .i64 r.Word, .int .i64 r.Low, .int .i64 r.Bits]) := by
 unfold Xl at h
 replace h := Qh h
 refine So Try.func45 Y fun w0 A=>Tr<|Rq Y (Z3 (cva<|ov Y) Y tZ_36 Y)<|Rq Y (Z3 (cva<|ov Y) Y tZ_49 Y)<|Rx Y (Zr (row := [_, _, _, _]) 0 Y Zig Y tZ_83)<|Za<|K5 2 3 4 5 8 Y<|Tr<|Rm Y<|Rq Y (Zc (ov Y) Zfq)<|Rq Y (Zb (ov Y) tS3 Y)<|R2 ZX Y<|Rq Y (Zc (ov Y) Zfu)<|Rq Y (Zb (ov Y) tS3 Y)<|Rm Y<|Rq Y (Zc (ov Y) Zaa)<|Rq Y (Zb (ov Y) tS3 Y)<|R2 ZhN Y<|R2 ZX Y<|Rq Y (Zc (ov Y) Zfw)<|Rq Y (Zb (ov Y) tS3 Y)<|Rq Y (Zc (ov Y) Zfn)<|Rq Y (Zb (ov Y) tS3 Y)<|Rq Y (Q3 (ys := [_, _, _, _]) Zk5 Zk3 Zig (.cons (cvs (ov Y)<|Zn Y)<|.cons (cvs (ov Y)<|Zn Y)<|.cons (cvs (ov Y)<|Zn Y)<|.cons (cvs (ov Y)<|Zn Y) .nil) Y)<|Rx Y (Zo (ov Y) (ov Y) (Zl Zgv Y) Y Y Y (Nat.le_of_ble_eq_true Y) (Zf Y) Y)<|Za<|?_
 obtain rfl := rt h
 exact Zk (Zq Y (.one<|.agg Y Y Y Y Zgv Y Y<|pwB Y))
theorem ZaF {number : Int} {p : api_Param} {r : (List api_Cell)} (h : Qz number p = some r) :
 CSpec Try.prog gl0 27 [.int .i64 number, .agg [.str p.Name, .int .i64 p.Kind, .sl 49 (List.map R49 p.Parts), .int .i64 p.First, .int .i64 p.Every, .int .i64 p.Times, .int .i64 p.Step, .sl 9 (List.map R9 p.Names)]] (.sl 71 (List.map R71 r)) := by
 unfold Qz at h
 replace h := Qh h
 refine So Try.func27 Y fun w0 A=>Tr<|Rq Y (Z3 (cva<|ov Y) Y tZ_36 Y)<|Ra Y<|Za<|K2 0 3 Y<|Tr<|Ra Y<|Za<|I1 (fun out=>⟨[(5, .own 0 out.length)], [some ⟨71, List.map R71 out⟩]⟩) h (fun h=>?_) fun out h=>?_
 ·
  refine Tr<|Rq Y (Zg (ov Y) Qi Y Y)<|bE h fun y h_y h=>Rq Y (Zp (ZcM h_y)<|.cons (ov Y) (.aggB Y) .nil)<|Rl tZ_3 ZaE Y<|Rm Y<|Za<|Ze<|?_
  obtain ⟨r1, hl1, ho1⟩ := Qu h
  refine L2 (fun out2 i=>⟨[(0, .int .i64 number), (3, .rp [.str p.Name, .int .i64 p.Kind, .sl 49 (List.map R49 p.Parts), .int .i64 p.First, .int .i64 p.Every, .int .i64 p.Times, .int .i64 p.Step, .sl 9 (List.map R9 p.Names)] 0), (5, .own 0 out2.length), (13, .sl 3 (List.map R3 y)), (14, .int .i64 (y.length : Int)), (15, .int .i64 i)], [some ⟨71, List.map R71 out2⟩]⟩) hl1 (ES [none]) fun n1 out2 i h=>?_
  unfold Ql at h
  refine Tr<|R2 ZH Y<|Za<|Zh<|If h Y (fun h=>?_) fun h=>?_
  ·
   refine Zd<|I1 (fun out3=>⟨[(0, .int .i64 number), (3, .rp [.str p.Name, .int .i64 p.Kind, .sl 49 (List.map R49 p.Parts), .int .i64 p.First, .int .i64 p.Every, .int .i64 p.Times, .int .i64 p.Step, .sl 9 (List.map R9 p.Names)] 0), (5, .own 0 out3.length), (13, .sl 3 (List.map R3 y)), (14, .int .i64 (y.length : Int)), (15, .int .i64 i)], [some ⟨71, List.map R71 out3⟩]⟩) h (fun h=>?_) fun out3 h=>?_
   ·
    refine Ze<|K6 0 3 5 13 14 15 Y<|Tr<|bE h fun x h_x h=>Rq Y (Zw (ov Y) (ov Y) ZaE h_x)<|Rq Y (Zb (ov Y) tS3 Y)<|Ra Y<|Za<|K7 0 3 5 7 13 14 15 Y<|Tr<|Rq Y (Zc (ov Y) J3)<|Rq Y (Zb (ov Y) tS3 Y)<|Rm Y<|Za<|Ze<|?_
    obtain ⟨r2, hl2, ho2⟩ := Qu h
    refine L2 (fun out4 i2=>⟨[(0, .int .i64 number), (3, .rp [.str p.Name, .int .i64 p.Kind, .sl 49 (List.map R49 p.Parts), .int .i64 p.First, .int .i64 p.Every, .int .i64 p.Times, .int .i64 p.Step, .sl 9 (List.map R9 p.Names)] 0), (5, .own 0 out4.length), (7, .int .i64 x), (13, .sl 3 (List.map R3 y)), (14, .int .i64 (y.length : Int)), (15, .int .i64 i), (20, .int .i64 p.Times), (21, .int .i64 i2)], [some ⟨71, List.map R71 out4⟩]⟩) hl2 (ES [some 0]) fun n2 out4 i2 h=>?_
    unfold XE at h
    refine Tr<|R2 ZH Y<|Za<|Zh<|If h Y (fun h=>?_) fun h=>?_
    ·
     refine Zd<|Zh<|Ze<|K9 0 3 5 7 13 14 15 20 21 Y<|Tr<|Rm Y<|Ra Y<|Za<|K10 0 3 5 7 8 13 14 15 20 21 Y<|Tr<|Rm Y<|Rm Y<|Rq Y (ZjI (ov Y) Y Y Zcm)<|Rm Y<|Rq Y (Q3 (ys := [_, _, _, _]) Zk1 Zk6 Zhe (.cons (cvs (ov Y)<|Zn Y)<|.cons (cvs (ov Y)<|Zn Y)<|.cons (cvs (ov Y)<|Zn Y) .nil) Y)<|Rx Y (Zr (row := [_, _, _, _]) 1 Y Zhe Y tZ_71)<|Rx Y (Zo (ov Y) (ov Y) (Zl Zeh Y) Y Y Y (Nat.le_of_ble_eq_true Y) (Zf Y) Y)<|Za<|I1 (fun Places=>⟨[(0, .int .i64 number), (3, .rp [.str p.Name, .int .i64 p.Kind, .sl 49 (List.map R49 p.Parts), .int .i64 p.First, .int .i64 p.Every, .int .i64 p.Times, .int .i64 p.Step, .sl 9 (List.map R9 p.Names)] 0), (5, .own 0 out4.length), (7, .int .i64 x), (9, .ptr 1 1 0 0), (13, .sl 3 (List.map R3 y)), (14, .int .i64 (y.length : Int)), (15, .int .i64 i), (20, .int .i64 p.Times), (21, .int .i64 i2)], [some ⟨71, List.map R71 out4⟩, some ⟨71, [[.int .i64 number, .int .i64 (out4.length : Int), .int .i64 x, .own 2 Places.length]]⟩, some ⟨83, List.map R83 Places⟩]⟩) h (fun h=>?_) fun Places h=>?_
     ·
      refine K11 0 3 5 7 8 9 13 14 15 20 21 Y<|Tr<|Rq Y (Zc (ov Y) XQ)<|Rq Y (Zb (ov Y) ZcE Y)<|Rl tZ_49 JD Y<|Rm Y<|Za<|Ze<|?_
      obtain ⟨r3, hl3, ho3⟩ := Qu h
      refine L2 (fun Places2 i3=>⟨[(0, .int .i64 number), (3, .rp [.str p.Name, .int .i64 p.Kind, .sl 49 (List.map R49 p.Parts), .int .i64 p.First, .int .i64 p.Every, .int .i64 p.Times, .int .i64 p.Step, .sl 9 (List.map R9 p.Names)] 0), (5, .own 0 out4.length), (7, .int .i64 x), (8, .int .i64 i2), (9, .ptr 1 1 0 0), (13, .sl 3 (List.map R3 y)), (14, .int .i64 (y.length : Int)), (15, .int .i64 i), (20, .int .i64 p.Times), (21, .int .i64 i2), (30, .sl 49 (List.map R49 p.Parts)), (31, .int .i64 (p.Parts.length : Int)), (32, .int .i64 i3)], [some ⟨71, List.map R71 out4⟩, some ⟨71, [[.int .i64 number, .int .i64 (out4.length : Int), .int .i64 x, .own 2 Places2.length]]⟩, some ⟨83, List.map R83 Places2⟩]⟩) hl3 (ES [some 0, some 1, none]) fun n3 Places2 i3 h=>?_
      unfold ZZ at h
      refine Tr<|R2 ZH Y<|Za<|Zh<|If h Y (fun h=>?_) fun h=>?_
      ·
       exact Zd<|Zh<|Ze<|XO (kc 0 Y<|kc 3 Y<|kc 5 Y<|kc 7 Y<|kc 8 Y<|kc 9 Y<|kc 13 Y<|kc 14 Y<|kc 15 Y<|kc 20 Y<|kc 21 Y<|kc 30 Y<|kc 31 Y<|kc 32 Y kn) Y<|Tr<|bE h fun x2 h_x2 h=>Rq Y (Zw (ov Y) (ov Y) JD h_x2)<|Rq Y (Zg (ov Y) ZbR Y Y)<|Rx Y (Zr (row := [_, _, _, _]) 3 Y Zgz Y tZ_49)<|Rx Y (Zo (ov Y) (ov Y) (Zl ZbR Y) Y Y Y (Nat.le_of_ble_eq_true Y) (Zf Y) Y)<|Za<|XO (kc 0 Y<|kc 3 Y<|kc 5 Y<|kc 7 Y<|kc 8 Y<|kc 9 Y<|kc 11 Y<|kc 13 Y<|kc 14 Y<|kc 15 Y<|kc 20 Y<|kc 21 Y<|kc 30 Y<|kc 31 Y<|kc 32 Y kn) Y<|Zgu (cw := md0) (by kernel_rfl)<|Dq 0 Y (Zi (ov Y) Y Y Zc6)<|Dq 1 Y (Zj (ov Y) Y Y Y Zg2 Y)<|Dq 2 Y (Zg (ov Y) Qi Y Y)<|Dq 3 Y (Z0 (ov Y) Y Y Y ZbR Y Y)<|D1 4 Zm Y<|D1 5 Zm Y<|bE h fun y2 h_y2 h=>Dq 6 Y (Zp (ZeO h_y2)<|.cons (ov Y) (.aggB Y)<|.cons (ov Y) (.aggB Y)<|.cons (ov Y) (.b Y)<|.cons (ov Y) (.b Y) .nil)<|Zkw 7 (.sl 83<|List.map R83 ([y2] : List api_Place)) Y (by kernel_rfl) Y Y (Za6 ZfL (.cons (cva<|ov Y) Y (pwD Y) .nil) Y Y)<|bE h fun l h_l h=>Do 8 Y (Xg (ov Y) (Xk (ov Y) tZ_83) ZfL Y Y Y (fun _=>Zf Y) Y h_l)<|Dq 9 Y (Zi (ov Y) Y Y Zc6)<|Do 10 Y (Zo (ov Y) (ov Y) (QR Zg2) Y Y Y (Nat.le_of_ble_eq_true Y) (Zf Y) Y)<|Dd<|XO (kc 0 Y<|kc 3 Y<|kc 5 Y<|kc 7 Y<|kc 8 Y<|kc 9 Y<|kc 13 Y<|kc 14 Y<|kc 15 Y<|kc 20 Y<|kc 21 Y<|kc 30 Y<|kc 31 Y<|kc 32 Y kn) Y<|Zs<|R2 ZX Y<|Rm Y<|Za<|⟨_, h, ES [some 0, some 1, some 2]⟩
      ·
       refine Zz<|?_
       replace h := lx h ▸ ho3
       exact ⟨_, h, ES [some 0, some 1, some 2]⟩
     ·
      exact Zs<|Rm Y<|Rq Y (Z0 (ov Y) Y Y Y Zeh Y Y)<|Zec (Ent.sel [some 0, some 1, none] (sd 0 Y Y<|sd 3 Y Y<|sr 5 Y (.own (r' := 0) _ Y)<|sd 7 Y Y<|sr 9 Y (.ptr (r' := 1) _ _ _ Y)<|sd 13 Y Y<|sd 14 Y Y<|sd 15 Y Y<|sd 20 Y Y<|sd 21 Y Y<|sr 47 Y (.own (r' := 0) _ Y)<|sr 48 Y (XL<|rlc (.dat Y)<|rlc (.dat Y)<|rlc (.dat Y)<|rlc (ZkR Y Y Y D83) rln) sn) (.cons Y (roM D71)<|.cons Y (ro1 (by exact tZ_71.symm)<|rlc (.dat Y)<|rlc (.dat Y)<|rlc (.dat Y)<|rlc (ZkR Y Y Y D83) rln)<|.row 83 .nil) Y Y)<|R_q (.sl 71<|List.map R71 ([(api_Cell.mk number (out4.length : Int) x Places)] : List api_Cell)) Y (Za6 Zcm (.cons (cva<|ov Y) Y (pwD Y) .nil) Y Y)<|bE h fun l2 h_l2 h=>Rx Y (Xg (ov Y) (Xk (ov Y) tZ_71) Zcm Y Y Y (fun _=>Zf Y) Y h_l2)<|Ra Y<|Za<|K9 0 3 5 7 13 14 15 20 21 Y<|Zs<|R2 ZX Y<|Rm Y<|Za<|⟨_, h, ES [some 0]⟩
    ·
     refine Zz<|?_
     replace h := lx h ▸ ho2
     exact ⟨_, h, ES [some 0]⟩
   ·
    exact Zs<|R2 ZX Y<|Rm Y<|Za<|⟨_, h, ES [some 0]⟩
  ·
   refine Zz<|?_
   replace h := lx h ▸ ho1
   exact ⟨_, h, ES [some 0]⟩
 ·
  refine Tr<|Rm Y<|Ra Y<|Za<|?_
  obtain rfl := rt h
  exact Zk (Zq Y (.one<|.tmp Y<|View.ownM Y Y D71))
theorem Zft {x : api_Place} {r : (List layout_bit)} (h : XJ x = some r) :
 CSpec Try.prog gl0 46 [.agg [.int .i64 x.Frame, .int .i64 x.Word, .int .i64 x.Low, .int .i64 x.Bits]] (.sl 97 (List.map R97 r)) := by
 unfold XJ at h
 replace h := Qh h
 refine So Try.func46 Y fun w0 A=>Tr<|Rq Y (Z3 (cva<|ov Y) Y tZ_83 Y)<|Ra Y<|Za<|K1 1 Y<|Tr<|Ra Y<|Za<|I1 (fun out=>⟨[(3, .own 0 out.length)], [some ⟨97, List.map R97 out⟩]⟩) h (fun h=>?_) fun out h=>?_
 ·
  refine Tr<|Rq Y (Zc (ov Y) Zfm)<|Rq Y (Zb (ov Y) tS3 Y)<|Rm Y<|Za<|Ze<|?_
  obtain ⟨r1, hl1, ho1⟩ := Qu h
  refine L2 (fun out2 i=>⟨[(1, .rp [.int .i64 x.Frame, .int .i64 x.Word, .int .i64 x.Low, .int .i64 x.Bits] 0), (3, .own 0 out2.length), (6, .int .i64 x.Bits), (7, .int .i64 i)], [some ⟨97, List.map R97 out2⟩]⟩) hl1 (ES [none]) fun n1 out2 i h=>?_
  unfold QW at h
  refine Tr<|R2 ZH Y<|Za<|Zh<|If h Y (fun h=>?_) fun h=>?_
  ·
   exact Zd<|Zh<|Ze<|K4 1 3 6 7 Y<|Tr<|Rm Y<|Ra Y<|Za<|K5 1 3 4 6 7 Y<|Zs<|Rm Y<|Rq Y (Zc (ov Y) Zhc)<|Rq Y (Zb (ov Y) tS3 Y)<|Rq Y (Zc (ov Y) Zhl)<|Rq Y (Zb (ov Y) tS3 Y)<|Rq Y (Zc (ov Y) Zgr)<|Rq Y (Zb (ov Y) tS3 Y)<|Rm Y<|R2 ZX Y<|Rq Y (Q3 (ys := [_, _, _]) ZlB Zl4 Zl7 (.cons (cvs (ov Y)<|Zn Y)<|.cons (cvs (ov Y)<|Zn Y)<|.cons (cvs (ov Y)<|Zn Y) .nil) Y)<|R_q (.sl 97<|List.map R97 ([(layout_bit.mk x.Frame x.Word (i64 (x.Low + i)))] : List layout_bit)) Y (Za6 Zkr (.cons (cva<|ov Y) Y (pwD Y) .nil) Y Y)<|bE h fun l h_l h=>Rx Y (Xg (ov Y) (Xk (ov Y) tZ_97) Zkr Y Y Y (fun _=>Zf Y) Y h_l)<|Ra Y<|Za<|K4 1 3 6 7 Y<|Zs<|R2 ZX Y<|Rm Y<|Za<|⟨_, h, ES [some 0]⟩
  ·
   refine Zz<|?_
   replace h := lx h ▸ ho1
   exact ⟨_, h, ES [some 0]⟩
 ·
  refine Tr<|Rm Y<|Ra Y<|Za<|?_
  obtain rfl := rt h
  exact Zk (Zq Y (.one<|.tmp Y<|View.ownM Y Y D97))
theorem ZdM {taken : List (layout_bit × Int)} {owner : Int} {l : List api_Place} {r : Bool × (List (layout_bit × Int))} (h : XW taken owner l = some r) :
 GSpec Try.prog gl0 28 [.mref 0 1, .int .i64 owner, .sl 83 (List.map R83 l)] [some ⟨66, [[.mcon (List.map (QP Zac FV3) taken)]]⟩] (.bool r.1) [some ⟨66, [[.mcon (List.map (QP Zac FV3) r.2)]]⟩] := by
 unfold XW at h
 replace h := Qh h
 refine Ze4 (by kernel_rfl) Try.func28 Y Y<|?_
 intro w0 A W φ0
 refine Tr<|Ra Y<|Za<|J1 (fun j => (.inr j)) (fun o=>⟨[], [some ⟨66, [[.mcon (List.map (QP Zac FV3) o)]]⟩]⟩) h (fun h=>?_) fun o h=>?_
 ·
  refine K3 0 1 2 Y<|Tr<|Rm Y<|Rl tZ_83 ZfL Y<|Rm Y<|Za<|Ze<|?_
  obtain ⟨r1, hl1, ho1⟩ := Qu h
  refine L2 (fun o2 i=>⟨[(0, .mref 0 1), (1, .int .i64 owner), (13, .sl 83 (List.map R83 l)), (14, .int .i64 (l.length : Int)), (15, .int .i64 i)], [some ⟨66, [[.mcon (List.map (QP Zac FV3) o2)]]⟩]⟩) hl1 (ES [some 0] (hhp := .cons Y (QB (fk := Zac) (fv := FV3) (m := taken) tZ_66 (fun _=>XL<|rld Y) fun _=>.ren<|.dat Y) .nil)) fun n1 o2 i h=>?_
  unfold QF at h
  refine Tr<|R2 ZH Y<|Za<|Zh<|If h Y (fun h=>?_) fun h=>?_
  ·
   refine Zd<|J1 (fun j => (.inr j)) (fun o3=>⟨[(0, .mref 0 1), (1, .int .i64 owner), (13, .sl 83 (List.map R83 l)), (14, .int .i64 (l.length : Int)), (15, .int .i64 i)], [some ⟨66, [[.mcon (List.map (QP Zac FV3) o3)]]⟩]⟩) h (fun h=>?_) fun o3 h=>?_
   ·
    refine Ze<|K5 0 1 13 14 15 Y<|Tr<|bE h fun x h_x h=>Rq Y (Zw (ov Y) (ov Y) ZfL h_x)<|Rq Y (Zg (ov Y) Zgv Y Y)<|Rx Y (Zr (row := [_, _, _, _]) 1 Y Zig Y tZ_83)<|Rx Y (Zo (ov Y) (ov Y) (Zl Zgv Y) Y Y Y (Nat.le_of_ble_eq_true Y) (Zf Y) Y)<|Za<|K6 0 1 8 13 14 15 Y<|Tr<|Rq Y (Z0 (ov Y) Y Y Y Zgv Y Y)<|bE h fun y h_y h=>Rq Y (Zp (Zft h_y)<|.cons (ov Y) (.aggB Y) .nil)<|Rl tZ_97 Zkr Y<|Rm Y<|Za<|Ze<|?_
    obtain ⟨r2, hl2, ho2⟩ := Qu h
    refine L2 (fun o4 i2=>⟨[(0, .mref 0 1), (1, .int .i64 owner), (13, .sl 83 (List.map R83 l)), (14, .int .i64 (l.length : Int)), (15, .int .i64 i), (20, .sl 97 (List.map R97 y)), (21, .int .i64 (y.length : Int)), (22, .int .i64 i2)], [some ⟨66, [[.mcon (List.map (QP Zac FV3) o4)]]⟩]⟩) hl2 (ES [some 0] (hhp := .cons Y (QB (fk := Zac) (fv := FV3) (m := o2) tZ_66 (fun _=>XL<|rld Y) fun _=>.ren<|.dat Y) .nil)) fun n2 o4 i2 h=>?_
    unfold QG at h
    refine Tr<|R2 ZH Y<|Za<|Zh<|If h Y (fun h=>?_) fun h=>?_
    ·
     refine Zd<|Zh<|Ze<|K8 0 1 13 14 15 20 21 22 Y<|Tr<|bE h fun x2 h_x2 h=>Rq Y (Zw (ov Y) (ov Y) Zkr h_x2)<|Rq Y (Zg (ov Y) ZkH Y Y)<|Rx Y (Zr (row := [_, _, _]) 1 Y Zl7 Y tZ_97)<|Rx Y (Zo (ov Y) (ov Y) (Zl ZkH Y) Y Y Y (Nat.le_of_ble_eq_true Y) (Zf Y) Y)<|Za<|Zh<|K9 0 1 10 13 14 15 20 21 22 Y<|Tr<|Rm Y<|Rq Y (Z0 (ov Y) Y Y Y ZkH Y Y)<|bE h fun o5 h_o5 h=>Rq Y (Zl1 (m := o4) (fk := Zac) (fv := FV3) (k := x2) (z0 := 0) (ov Y) (ov Y) ZiI ZkX Y (fun _=>.aggB Y) (ZaB Zmc Y) (fun _ _=>Y) h_o5)<|Rm Y<|Rq Y (ZM (ov Y) Y)<|Rq Y (ZM (ov Y) Y)<|Ra Y<|Ra Y<|Za<|K10 0 1 10 12 13 14 15 20 21 22 Y<|Tr<|Rm Y<|Za<|K10 0 1 10 13 14 15 20 21 22 32 Y<|If h Y (fun h=>?_) fun h=>?_
     ·
      refine K0<|Tr<|Ra Y<|Za<|?_
      replace h := lx h ▸ ho2
      replace h := lx h ▸ ho1
      obtain rfl := rt h
      exact Zk<|Zkq [some 0] Y (.cons (.tmp Y) .nil) (.cons Y (QB (fk := Zac) (fv := FV3) (m := o4) tZ_66 (fun _=>XL<|rld Y) fun _=>.ren<|.dat Y) .nil) Y Y<|.dat Y
     ·
      exact Zd<|K9 0 1 10 13 14 15 20 21 22 Y<|Zs<|Rm Y<|Rq Y (Z0 (ov Y) Y Y Y ZkH Y Y)<|Rm Y<|Rx Y (Zgp (m := o4) (fk := Zac) (fv := FV3) (k := x2) (v := owner) (ov Y) (ov Y) (ov Y) ZiI ZkX Y fun _=>.aggB Y)<|Za<|K8 0 1 13 14 15 20 21 22 Y<|Zs<|R2 ZX Y<|Rm Y<|Za<|⟨_, h, ES [some 0] (hhp := .cons Y (QB (fk := Zac) (fv := FV3) (m := (Zd1 kq_layout_bit o4 x2 owner)) tZ_66 (fun _=>XL<|rld Y) fun _=>.ren<|.dat Y) .nil)⟩
    ·
     refine Zz<|?_
     replace h := lx h ▸ ho2
     exact ⟨_, h, ES [some 0] (hhp := .cons Y (QB (fk := Zac) (fv := FV3) (m := o4) tZ_66 (fun _=>XL<|rld Y) fun _=>.ren<|.dat Y) .nil)⟩
   ·
    replace h := elr h
    replace h := t1i h
    exact Zs<|R2 ZX Y<|Rm Y<|Za<|⟨_, h, ES [some 0] (hhp := .cons Y (QB (fk := Zac) (fv := FV3) (m := o3) tZ_66 (fun _=>XL<|rld Y) fun _=>.ren<|.dat Y) .nil)⟩
  ·
   refine Zz<|?_
   replace h := lx h ▸ ho1
   exact ⟨_, h, ES [some 0] (hhp := .cons Y (QB (fk := Zac) (fv := FV3) (m := o2) tZ_66 (fun _=>XL<|rld Y) fun _=>.ren<|.dat Y) .nil)⟩
 ·
  replace h := elr h
  replace h := t1i h
  refine Tr<|Ra Y<|Za<|?_
  obtain rfl := rt h
  exact Zk<|Zkq [some 0] Y (.cons (.tmp Y) .nil) (.cons Y (QB (fk := Zac) (fv := FV3) (m := o) tZ_66 (fun _=>XL<|rld Y) fun _=>.ren<|.dat Y) .nil) Y Y<|.dat Y
theorem Zdw {p : api_Param} {r : Int} (h : QA p = some r) :
 CSpec Try.prog gl0 23 [.agg [.str p.Name, .int .i64 p.Kind, .sl 49 (List.map R49 p.Parts), .int .i64 p.First, .int .i64 p.Every, .int .i64 p.Times, .int .i64 p.Step, .sl 9 (List.map R9 p.Names)]] (.int .i64 r) := by
 unfold QA at h
 replace h := Qh h
 refine So Try.func23 Y fun w0 A=>Tr<|Rq Y (Z3 (cva<|ov Y) Y tZ_36 Y)<|Ra Y<|Za<|Zh<|K1 1 Y<|Tr<|Rq Y (Zc (ov Y) Xx)<|Rq Y (Zb (ov Y) tS9 Y)<|bE h fun y h_y h=>Rq Y (Zp (ZcF h_y)<|.cons (ov Y) (.b Y) .nil)<|R1 Xb Y<|Za<|K2 1 12 Y<|If h Y (fun h=>?_) fun h=>?_
 ·
  refine K0<|Tr<|Ra Y<|Za<|?_
  obtain rfl := rt h
  exact Zk (Zq Y (.one<|rb Y))
 ·
  refine Zd<|Zh<|K1 1 Y<|Tr<|Rq Y (Zc (ov Y) Jc)<|Rq Y (Zb (ov Y) tS3 Y)<|bE h fun y2 h_y2 h=>Rq Y (Zp (Z8 h_y2)<|.cons (ov Y) (.b Y)<|.cons (ov Y) (.b Y)<|.cons (ov Y) (.b Y) .nil)<|R1 Xb Y<|Za<|K2 1 16 Y<|If h Y (fun h=>?_) fun h=>?_
  ·
   refine K0<|Tr<|Ra Y<|Za<|?_
   obtain rfl := rt h
   exact Zk (Zq Y (.one<|rb Y))
  ·
   refine Zd<|Zh<|K1 1 Y<|Tr<|Rq Y (Zg (ov Y) Qi Y Y)<|bE h fun y3 h_y3 h=>Rq Y (Zp (ZdP h_y3)<|.cons (ov Y) (.aggB Y) .nil)<|Ra Y<|Za<|K2 1 3 Y<|Tr<|Rm Y<|R2 Qd Y<|Za<|K3 1 3 20 Y<|If h Y (fun h=>?_) fun h=>?_
   ·
    refine K1 3 Y<|Tr<|Rm Y<|Ra Y<|Za<|?_
    obtain rfl := rt h
    exact Zk (Zq Y (.one<|rb Y))
   ·
    refine Zd<|Zh<|K1 1 Y<|Tr<|Rq Y (Zg (ov Y) Qi Y Y)<|bE h fun y4 h_y4 h=>Rq Y (Zp (ZdC h_y4)<|.cons (ov Y) (.aggB Y) .nil)<|Ra Y<|Za<|K2 1 4 Y<|Tr<|Rm Y<|R2 Qd Y<|Za<|K3 1 4 25 Y<|If h Y (fun h=>?_) fun h=>?_
    ·
     refine K1 4 Y<|Tr<|Rm Y<|Ra Y<|Za<|?_
     obtain rfl := rt h
     exact Zk (Zq Y (.one<|rb Y))
    ·
     refine Zd<|K1 1 Y<|Tr<|Rx Y (ZcG 0 Y ZiI)<|Ra Y<|Za<|K2 1 5 Y<|Tr<|Rq Y (Zg (ov Y) Qi Y Y)<|bE h fun y5 h_y5 h=>Rq Y (Zp (ZaF h_y5)<|.cons (ov Y) (.b Y)<|.cons (ov Y) (.aggB Y) .nil)<|Ra Y<|Za<|J0 (fun j => (.inr j)) ⟨[(6, .sl 71 (List.map R71 y5))], []⟩ h (fun h=>?_) fun h=>?_
     ·
      refine K2 5 6 Y<|Tr<|Rm Y<|Rl tZ_71 Zcm Y<|Rm Y<|Za<|Ze<|?_
      obtain ⟨r1, hl1, ho1⟩ := Qu h
      refine L2 (fun taken i=>⟨[(5, .mref 0 1), (6, .sl 71 (List.map R71 y5)), (30, .sl 71 (List.map R71 y5)), (31, .int .i64 (y5.length : Int)), (32, .int .i64 i)], [some ⟨66, [[.mcon (List.map (QP Zac FV3) taken)]]⟩]⟩) hl1 (ES [some 0] (hhp := .cons Y (QB (fk := Zac) (fv := FV3) (m := ([] : List (layout_bit × Int))) tZ_66 (fun _=>XL<|rld Y) fun _=>.ren<|.dat Y) .nil)) fun n1 taken i h=>?_
      unfold Z1 at h
      refine Tr<|R2 ZH Y<|Za<|Zh<|If h Y (fun h=>?_) fun h=>?_
      ·
       refine Zd<|Zh<|Ze<|K5 5 6 30 31 32 Y<|Tr<|bE h fun x h_x h=>Rq Y (Zw (ov Y) (ov Y) Zcm h_x)<|Rq Y (Zg (ov Y) Zeh Y Y)<|Rx Y (Zr (row := [_, _, _, _]) 1 Y Zhe Y tZ_71)<|Rx Y (Zo (ov Y) (ov Y) (Zl Zeh Y) Y Y Y (Nat.le_of_ble_eq_true Y) (Zf Y) Y)<|Za<|K6 5 6 8 30 31 32 Y<|Tr<|Rm Y<|Rq Y (Zi (ov Y) Y Y Zc6)<|Rq Y (Zj (ov Y) Y Y Y Zg2 Y)<|bE h fun y6 h_y6 h=>Rx Y (Zff [0] (ZdM h_y6) (.cons (ov Y) (.mref _ Y)<|.cons (ov Y) (.dat Y)<|.cons (ov Y) (.dat Y) .nil) (.cons Y (QB (fk := Zac) (fv := FV3) (m := taken) tZ_66 (fun _=>XL<|rld Y) fun _=>.ren<|.dat Y) .nil) Y (.lent 0 (.inl Y) Y (QB (fk := Zac) (fv := FV3) (m := y6.2) tZ_66 (fun _=>XL<|rld Y) fun _=>.ren<|.dat Y)<|.keep Y Y .nil) Y Y<|.dat Y)<|R1 Xb Y<|Za<|K6 5 6 30 31 32 40 Y<|If h Y (fun h=>?_) fun h=>?_
       ·
        refine K0<|Tr<|Ra Y<|Za<|?_
        replace h := lx h ▸ ho1
        obtain rfl := rt h
        exact Zk (Zq Y (.one<|rb Y))
       ·
        exact Zd<|K5 5 6 30 31 32 Y<|Zs<|R2 ZX Y<|Rm Y<|Za<|⟨_, h, ES [some 0] (hhp := .cons Y (QB (fk := Zac) (fv := FV3) (m := y6.2) tZ_66 (fun _=>XL<|rld Y) fun _=>.ren<|.dat Y) .nil)⟩
      ·
       refine Zz<|?_
       replace h := lx h ▸ ho1
       exact ⟨_, h, ES []⟩
     ·
      replace h := elr h
      replace h := t0i h
      refine Zh<|Tr<|Rm Y<|Rl tZ_71 Zcm Y<|R2 QQ Y<|Za<|K1 44 Y<|If h Y (fun h=>?_) fun h=>?_
      ·
       refine K0<|Tr<|Ra Y<|Za<|?_
       obtain rfl := rt h
       exact Zk (Zq Y (.one<|rb Y))
      ·
       refine Zd<|K0<|Tr<|Ra Y<|Za<|?_
       obtain rfl := rt h
       exact Zk (Zq Y (.one<|rb Y))
theorem Jy {s : List api_Param} {f : api_Param → Option Bool} {r : Int} {f_f : FuncId} {f_c : List AV} (f_d : f_c.all datB = true) (f_h : ∀ (z0 : api_Param) z, f z0 = some z → CSpec Try.prog gl0 f_f ([.agg [.str z0.Name, .int .i64 z0.Kind, .sl 49 (List.map R49 z0.Parts), .int .i64 z0.First, .int .i64 z0.Every, .int .i64 z0.Times, .int .i64 z0.Step, .sl 9 (List.map R9 z0.Names)]] ++ f_c) (.bool z)) (h : ZC s f = some r) :
 CSpec Try.prog gl0 42 [.sl 36 (List.map R36 s), .fn f_f f_c] (.int .i64 r) := by
 unfold ZC at h
 replace h := Qh h
 refine So Try.func42 Y fun w0 A=>Tr<|Ra Y<|Za<|J0 (fun j => (.inr j)) ⟨[], []⟩ h (fun h=>?_) fun h=>?_
 ·
  refine K2 0 1 Y<|Tr<|Rm Y<|Rl tZ_36 Xy Y<|Rm Y<|Za<|Ze<|?_
  obtain ⟨r1, hl1, ho1⟩ := Qu h
  refine L1 (fun i=>⟨[(0, .sl 36 (List.map R36 s)), (1, .fn f_f f_c), (7, .int .i64 (s.length : Int)), (8, .int .i64 i)], []⟩) hl1 (ES []<|sd 0 Y Y<|sr 1 Y (rFn<|rld f_d)<|sd 7 Y Y<|sd 8 Y Y sn) fun n1 i h=>?_
  unfold Zu at h
  refine Tr<|R2 ZH Y<|Za<|Zh<|If h Y (fun h=>?_) fun h=>?_
  ·
   refine Zd<|Zh<|Ze<|K4 0 1 7 8 Y<|Tr<|Rm Y<|Ra Y<|Za<|K5 0 1 5 7 8 Y<|Tr<|Rm Y<|Rm Y<|Rm Y<|bE h fun x h_x h=>Rq Y (Zw (ov Y) (ov Y) Xy h_x)<|Rq Y (Zg (ov Y) Qi Y Y)<|bE h fun y h_y h=>Rq Y (Jw (ov Y) f_d (f_h _ _ h_y)<|.cons (ov Y) (.aggB Y) .nil)<|Za<|K6 0 1 5 7 8 16 Y<|If h Y (fun h=>?_) fun h=>?_
   ·
    refine K1 5 Y<|Tr<|Rm Y<|Ra Y<|Za<|?_
    replace h := lx h ▸ ho1
    obtain rfl := rt h
    exact Zk (Zq Y (.one<|rb Y))
   ·
    exact Zd<|K4 0 1 7 8 Y<|Zs<|R2 ZX Y<|Rm Y<|Za<|⟨_, h, ES []<|sd 0 Y Y<|sr 1 Y (rFn<|rld f_d)<|sd 7 Y Y<|sd 8 Y Y sn⟩
  ·
   refine Zz<|?_
   replace h := lx h ▸ ho1
   exact ⟨_, h, ES []⟩
 ·
  replace h := elr h
  replace h := t0i h
  refine Tr<|Ra Y<|Za<|?_
  obtain rfl := rt h
  exact Zk (Zq Y (.one<|rb Y))
theorem Je {s : List api_Param} {f : api_Param → Option Bool} {r : Bool} {f_f : FuncId} {f_c : List AV} (f_d : f_c.all datB = true) (f_h : ∀ (z0 : api_Param) z, f z0 = some z → CSpec Try.prog gl0 f_f ([.agg [.str z0.Name, .int .i64 z0.Kind, .sl 49 (List.map R49 z0.Parts), .int .i64 z0.First, .int .i64 z0.Every, .int .i64 z0.Times, .int .i64 z0.Step, .sl 9 (List.map R9 z0.Names)]] ++ f_c) (.bool z)) (h : Zt s f = some r) :
 CSpec Try.prog gl0 24 [.sl 36 (List.map R36 s), .fn f_f f_c] (.bool r) := by
 unfold Zt at h
 replace h := Qh h
 refine So Try.func24 Y fun w0 A=>Tr<|Ra Y<|Za<|Tr<|Rm Y<|Rm Y<|bE h fun y h_y h=>Rq Y (Zp (Jy f_d f_h h_y)<|.cons (ov Y) (.b Y)<|.cons (ov Y) (Dat.fnC<|.refl fun x hx => .b<|List.all_eq_true.1 f_d x hx) .nil)<|R2 Zb9 Y<|Ra Y<|Za<|?_
 obtain rfl := rt h
 exact Zk (Zq Y (.one<|rb Y))
theorem ZeX {q : api_Param} {c0 : api_Param} {r : Bool} (h : XU q c0 = some r) :
 CSpec Try.prog gl0 25 [.agg [.str q.Name, .int .i64 q.Kind, .sl 49 (List.map R49 q.Parts), .int .i64 q.First, .int .i64 q.Every, .int .i64 q.Times, .int .i64 q.Step, .sl 9 (List.map R9 q.Names)], .rp [.str c0.Name, .int .i64 c0.Kind, .sl 49 (List.map R49 c0.Parts), .int .i64 c0.First, .int .i64 c0.Every, .int .i64 c0.Times, .int .i64 c0.Step, .sl 9 (List.map R9 c0.Names)] 0] (.bool r) := by
 unfold XU at h
 replace h := Qh h
 refine So Try.func25 Y fun w0 A=>Tr<|Rq Y (Z3 (cva<|ov Y) Y tZ_36 Y)<|Ra Y<|Za<|K3 1 2 3 Y<|Tr<|Rq Y (Zc (ov Y) Xx)<|Rq Y (Zb (ov Y) tS9 Y)<|Rq Y (Zc (ov Y) Xx)<|Rq Y (Zb (ov Y) tS9 Y)<|R2 Zb5 Y<|Ra Y<|Za<|?_
 obtain rfl := rt h
 exact Zk (Zq Y (.one<|rb Y))
theorem ZbD {m : api_Map} {r : Int × Int} (h : QX m = some r) :
 CSpec Try.prog gl0 9 [.agg [.int .i64 m.Version, .sl 36 (List.map R36 m.Params)]] (.tuple [.int .i64 r.1, .int .i64 r.2]) := by
 unfold QX at h
 replace h := Qh h
 refine So Try.func9 Y fun w0 A=>Tr<|Rq Y (Z3 (cva<|ov Y) Y tZ_24 Y)<|Ra Y<|Ra Y<|Za<|Zh<|K1 1 Y<|Tr<|Rq Y (Zc (ov Y) Zho)<|Rq Y (Zb (ov Y) tS3 Y)<|bE h fun y h_y h=>Rq Y (Zp (Z8 h_y)<|.cons (ov Y) (.b Y)<|.cons (ov Y) (.b Y)<|.cons (ov Y) (.b Y) .nil)<|R1 Xb Y<|Za<|K2 1 18 Y<|If h Y (fun h=>?_) fun h=>?_
 ·
  refine K0<|Tr<|Ra Y<|Ra Y<|Za<|?_
  obtain rfl := rt h
  exact Zk (Zq Y (.two (rb Y)<|rb Y))
 ·
  refine Zd<|Zh<|K1 1 Y<|Tr<|Rq Y (Zc (ov Y) Q1)<|Rq Y (Zb (ov Y) Zbv Y)<|Rl tZ_36 Xy Y<|R2 Ji Y<|Za<|K2 1 22 Y<|If h Y (fun h=>?_) fun h=>?_
  ·
   refine K0<|Tr<|Ra Y<|Ra Y<|Za<|?_
   obtain rfl := rt h
   exact Zk (Zq Y (.two (rb Y)<|rb Y))
  ·
   refine Zd<|J0 (fun j => (.inr j)) ⟨[(1, .rp [.int .i64 m.Version, .sl 36 (List.map R36 m.Params)] 0)], []⟩ h (fun h=>?_) fun h=>?_
   ·
    refine K1 1 Y<|Tr<|Rq Y (Zc (ov Y) Q1)<|Rq Y (Zb (ov Y) Zbv Y)<|Rl tZ_36 Xy Y<|Rm Y<|Za<|Ze<|?_
    obtain ⟨r1, hl1, ho1⟩ := Qu h
    refine L1 (fun i=>⟨[(1, .rp [.int .i64 m.Version, .sl 36 (List.map R36 m.Params)] 0), (24, .sl 36 (List.map R36 m.Params)), (25, .int .i64 (m.Params.length : Int)), (26, .int .i64 i)], []⟩) hl1 (ES []) fun n1 i h=>?_
    unfold Q9 at h
    refine Tr<|R2 ZH Y<|Za<|Zh<|If h Y (fun h=>?_) fun h=>?_
    ·
     refine Zd<|Zh<|Ze<|K4 1 24 25 26 Y<|Tr<|Rm Y<|bE h fun x h_x h=>Rq Y (Zw (ov Y) (ov Y) Xy h_x)<|Rq Y (Zg (ov Y) Qi Y Y)<|Rx Y (Zr (row := [_, _, _, _, _, _, _, _]) 0 Y Zcu Y tZ_36)<|Ra Y<|Rx Y (Zo (ov Y) (ov Y) (Zl Qi Y) Y Y Y (Nat.le_of_ble_eq_true Y) (Zf Y) Y)<|Za<|Zh<|K6 1 4 5 24 25 26 Y<|Tr<|Rq Y (Z0 (ov Y) Y Y Y Qi Y Y)<|bE h fun y2 h_y2 h=>Rq Y (Zp (Zdw h_y2)<|.cons (ov Y) (.aggB Y) .nil)<|Ra Y<|Za<|K7 1 4 5 6 24 25 26 Y<|Tr<|Rm Y<|R2 Qd Y<|Za<|K8 1 4 5 6 24 25 26 34 Y<|If h Y (fun h=>?_) fun h=>?_
     ·
      refine K2 4 6 Y<|Tr<|Rm Y<|Rm Y<|Ra Y<|Ra Y<|Za<|?_
      replace h := lx h ▸ ho1
      obtain rfl := rt h
      exact Zk (Zq Y (.two (rb Y)<|rb Y))
     ·
      refine Zd<|K6 1 4 5 24 25 26 Y<|Tr<|Rq Y (Zc (ov Y) Q1)<|Rq Y (Zb (ov Y) Zbv Y)<|Rm Y<|bE h fun l h_l h=>Rq Y (ZeG (ov Y) Xy on (oi<|ov Y) h_l)<|Zec (Ent.sel [none] (sd 1 Y Y<|sd 4 Y Y<|sr 5 Y (.frp ⟨Y, ⟨_, Y⟩, Y, Y⟩)<|sd 24 Y Y<|sd 25 Y Y<|sd 26 Y Y<|sd 37 Y Y<|sd 38 Y Y<|sd 39 Y Y<|sd 40 Y Y sn) (.row 36 .nil) Y Y)<|Rq Y (Qt<|.cons (ov Y) .nil)<|bE h fun y3 h_y3 h=>Rq Y (Zp (Je Y (fun z0 _ hz=>ZeX hz) h_y3)<|.cons (ov Y) (.b Y)<|.cons (ov Y) (.fnC<|.cons (.b Y) .nil) .nil)<|Za<|K6 1 4 24 25 26 42 Y<|If h Y (fun h=>?_) fun h=>?_
      ·
       refine K1 4 Y<|Tr<|Rm Y<|Ra Y<|Ra Y<|Za<|?_
       replace h := lx h ▸ ho1
       obtain rfl := rt h
       exact Zk (Zq Y (.two (rb Y)<|rb Y))
      ·
       exact Zd<|K4 1 24 25 26 Y<|Zs<|R2 ZX Y<|Rm Y<|Za<|⟨_, h, ES []⟩
    ·
     refine Zz<|?_
     replace h := lx h ▸ ho1
     exact ⟨_, h, ES []⟩
   ·
    replace h := elr h
    replace h := t0i h
    refine Tr<|Ra Y<|Za<|J0 (fun j => (.inr j)) ⟨[(1, .rp [.int .i64 m.Version, .sl 36 (List.map R36 m.Params)] 0)], []⟩ h (fun h=>?_) fun h=>?_
    ·
     refine Tr<|Rq Y (Zc (ov Y) Q1)<|Rq Y (Zb (ov Y) Zbv Y)<|Rl tZ_36 Xy Y<|Rm Y<|Za<|Ze<|?_
     obtain ⟨r2, hl2, ho2⟩ := Qu h
     refine L2 (fun cells i2=>⟨[(1, .rp [.int .i64 m.Version, .sl 36 (List.map R36 m.Params)] 0), (7, .int .i64 cells), (46, .sl 36 (List.map R36 m.Params)), (47, .int .i64 (m.Params.length : Int)), (48, .int .i64 i2)], []⟩) hl2 (ES []) fun n2 cells i2 h=>?_
     unfold QL at h
     refine Tr<|R2 ZH Y<|Za<|Zh<|If h Y (fun h=>?_) fun h=>?_
     ·
      refine Zd<|Zh<|Ze<|K5 1 7 46 47 48 Y<|Tr<|Rm Y<|bE h fun x2 h_x2 h=>Rq Y (Zw (ov Y) (ov Y) Xy h_x2)<|Rq Y (Zg (ov Y) Qi Y Y)<|Rx Y (Zr (row := [_, _, _, _, _, _, _, _]) 0 Y Zcu Y tZ_36)<|Ra Y<|Rx Y (Zo (ov Y) (ov Y) (Zl Qi Y) Y Y Y (Nat.le_of_ble_eq_true Y) (Zf Y) Y)<|Za<|K7 1 7 8 9 46 47 48 Y<|Td md0<|D1 0 Zm Y<|Dq 1 Y (Z0 (ov Y) Y Y Y Qi Y Y)<|bE h fun y4 h_y4 h=>Dq 2 Y (Zp (ZcM h_y4)<|.cons (ov Y) (.aggB Y) .nil)<|Dq 3 Y (Zeb (Xk (ov Y) tZ_3) ZaE<|Zbp _ _)<|Dq 4 Y (Zi (ov Y) Y Y J3)<|Dq 5 Y (Zj (ov Y) Y Y Y tS3 Y)<|D2 6 ZhN Y<|D2 7 ZX Y<|D1 8 Jg Y<|Dd<|K6 1 7 8 46 47 48 Y<|Tr<|Rm Y<|R2 Ji Y<|Za<|K7 1 7 8 46 47 48 62 Y<|If h Y (fun h=>?_) fun h=>?_
      ·
       refine K1 8 Y<|Tr<|Rm Y<|Ra Y<|Ra Y<|Za<|?_
       replace h := lx h ▸ ho2
       obtain rfl := rt h
       exact Zk (Zq Y (.two (rb Y)<|rb Y))
      ·
       exact Zd<|K5 1 7 46 47 48 Y<|Zs<|R2 ZX Y<|Rm Y<|Za<|⟨_, h, ES []⟩
     ·
      refine Zz<|?_
      replace h := lx h ▸ ho2
      exact ⟨_, h, ES []⟩
    ·
     replace h := elr h
     replace h := t0i h
     refine Tr<|Rx Y (ZcG 0 Y ZiI)<|Ra Y<|Za<|J0 (fun j => (.inr j)) ⟨[], []⟩ h (fun h=>?_) fun h=>?_
     ·
      refine K2 1 10 Y<|Tr<|Rq Y (Zc (ov Y) Q1)<|Rq Y (Zb (ov Y) Zbv Y)<|Rl tZ_36 Xy Y<|Rm Y<|Za<|Ze<|?_
      obtain ⟨r3, hl3, ho3⟩ := Qu h
      refine L2 (fun taken i3=>⟨[(10, .mref 0 1), (67, .sl 36 (List.map R36 m.Params)), (68, .int .i64 (m.Params.length : Int)), (69, .int .i64 i3)], [some ⟨66, [[.mcon (List.map (QP Zac FV3) taken)]]⟩]⟩) hl3 (ES [some 0] (hhp := .cons Y (QB (fk := Zac) (fv := FV3) (m := ([] : List (layout_bit × Int))) tZ_66 (fun _=>XL<|rld Y) fun _=>.ren<|.dat Y) .nil)) fun n3 taken i3 h=>?_
      unfold QJ at h
      refine Tr<|R2 ZH Y<|Za<|Zh<|If h Y (fun h=>?_) fun h=>?_
      ·
       refine Zd<|J1 (fun j => (.inr j)) (fun taken2=>⟨[(10, .mref 0 1), (67, .sl 36 (List.map R36 m.Params)), (68, .int .i64 (m.Params.length : Int)), (69, .int .i64 i3)], [some ⟨66, [[.mcon (List.map (QP Zac FV3) taken2)]]⟩]⟩) h (fun h=>?_) fun taken2 h=>?_
       ·
        refine Ze<|K4 10 67 68 69 Y<|Tr<|Rm Y<|bE h fun x3 h_x3 h=>Rq Y (Zw (ov Y) (ov Y) Xy h_x3)<|Rq Y (Zg (ov Y) Qi Y Y)<|Rx Y (Zr (row := [_, _, _, _, _, _, _, _]) 1 Y Zcu Y tZ_36)<|Ra Y<|Rx Y (Zo (ov Y) (ov Y) (Zl Qi Y) Y Y Y (Nat.le_of_ble_eq_true Y) (Zf Y) Y)<|Za<|K6 10 11 12 67 68 69 Y<|Tr<|Rm Y<|Rq Y (Z0 (ov Y) Y Y Y Qi Y Y)<|bE h fun y5 h_y5 h=>Rq Y (Zp (ZaF h_y5)<|.cons (ov Y) (.b Y)<|.cons (ov Y) (.aggB Y) .nil)<|Rl tZ_71 Zcm Y<|Rm Y<|Za<|Ze<|?_
        obtain ⟨r4, hl4, ho4⟩ := Qu h
        refine L2 (fun taken3 i4=>⟨[(10, .mref 0 1), (11, .int .i64 i3), (67, .sl 36 (List.map R36 m.Params)), (68, .int .i64 (m.Params.length : Int)), (69, .int .i64 i3), (76, .sl 71 (List.map R71 y5)), (77, .int .i64 (y5.length : Int)), (78, .int .i64 i4)], [some ⟨66, [[.mcon (List.map (QP Zac FV3) taken3)]]⟩]⟩) hl4 (ES [some 0] (hhp := .cons Y (QB (fk := Zac) (fv := FV3) (m := taken) tZ_66 (fun _=>XL<|rld Y) fun _=>.ren<|.dat Y) .nil)) fun n4 taken3 i4 h=>?_
        unfold QK at h
        refine Tr<|R2 ZH Y<|Za<|Zh<|If h Y (fun h=>?_) fun h=>?_
        ·
         refine Zd<|Zh<|Ze<|K8 10 11 67 68 69 76 77 78 Y<|Tr<|bE h fun x4 h_x4 h=>Rq Y (Zw (ov Y) (ov Y) Zcm h_x4)<|Rq Y (Zg (ov Y) Zeh Y Y)<|Rx Y (Zr (row := [_, _, _, _]) 1 Y Zhe Y tZ_71)<|Rx Y (Zo (ov Y) (ov Y) (Zl Zeh Y) Y Y Y (Nat.le_of_ble_eq_true Y) (Zf Y) Y)<|Za<|K9 10 11 14 67 68 69 76 77 78 Y<|Tr<|Rm Y<|Rm Y<|Rq Y (Zi (ov Y) Y Y Zc6)<|Rq Y (Zj (ov Y) Y Y Y Zg2 Y)<|bE h fun y6 h_y6 h=>Rx Y (Zff [0] (ZdM h_y6) (.cons (ov Y) (.mref _ Y)<|.cons (ov Y) (.dat Y)<|.cons (ov Y) (.dat Y) .nil) (.cons Y (QB (fk := Zac) (fv := FV3) (m := taken3) tZ_66 (fun _=>XL<|rld Y) fun _=>.ren<|.dat Y) .nil) Y (.lent 0 (.inl Y) Y (QB (fk := Zac) (fv := FV3) (m := y6.2) tZ_66 (fun _=>XL<|rld Y) fun _=>.ren<|.dat Y)<|.keep Y Y .nil) Y Y<|.dat Y)<|R1 Xb Y<|Za<|K9 10 11 67 68 69 76 77 78 87 Y<|If h Y (fun h=>?_) fun h=>?_
         ·
          refine K1 11 Y<|Tr<|Rm Y<|Ra Y<|Ra Y<|Za<|?_
          replace h := lx h ▸ ho4
          replace h := lx h ▸ ho3
          obtain rfl := rt h
          exact Zk (Zq Y (.two (rb Y)<|rb Y))
         ·
          exact Zd<|K8 10 11 67 68 69 76 77 78 Y<|Zs<|R2 ZX Y<|Rm Y<|Za<|⟨_, h, ES [some 0] (hhp := .cons Y (QB (fk := Zac) (fv := FV3) (m := y6.2) tZ_66 (fun _=>XL<|rld Y) fun _=>.ren<|.dat Y) .nil)⟩
        ·
         refine Zz<|?_
         replace h := lx h ▸ ho4
         exact ⟨_, h, ES [some 0] (hhp := .cons Y (QB (fk := Zac) (fv := FV3) (m := taken3) tZ_66 (fun _=>XL<|rld Y) fun _=>.ren<|.dat Y) .nil)⟩
       ·
        replace h := elr h
        replace h := t1i h
        exact Zs<|R2 ZX Y<|Rm Y<|Za<|⟨_, h, ES [some 0] (hhp := .cons Y (QB (fk := Zac) (fv := FV3) (m := taken2) tZ_66 (fun _=>XL<|rld Y) fun _=>.ren<|.dat Y) .nil)⟩
      ·
       refine Zz<|?_
       replace h := lx h ▸ ho3
       exact ⟨_, h, ES []⟩
     ·
      replace h := elr h
      replace h := t0i h
      refine Tr<|Ra Y<|Ra Y<|Za<|?_
      obtain rfl := rt h
      exact Zk (Zq Y (.two (rb Y)<|rb Y))
theorem ZdO {m : api_Map} {name : Str} {r : (Unit) ⊕ (api_Param)} (h : XY m name = some r) :
 CSpec Try.prog gl0 11 [.agg [.int .i64 m.Version, .sl 36 (List.map R36 m.Params)], .str name] (Sum.elim (fun r => .lit (.pointer none)) (fun r => .rp [.str r.Name, .int .i64 r.Kind, .sl 49 (List.map R49 r.Parts), .int .i64 r.First, .int .i64 r.Every, .int .i64 r.Times, .int .i64 r.Step, .sl 9 (List.map R9 r.Names)] 0) r) := by
 unfold XY at h
 replace h := Qh h
 refine So Try.func11 Y fun w0 A=>Tr<|Rq Y (Z3 (cva<|ov Y) Y tZ_24 Y)<|Ra Y<|Za<|J0 (fun j => (.inr j)) ⟨[], []⟩ h (fun h=>?_) fun h=>?_
 ·
  refine K2 1 2 Y<|Tr<|Rq Y (Zc (ov Y) Q1)<|Rq Y (Zb (ov Y) Zbv Y)<|Rl tZ_36 Xy Y<|Rm Y<|Za<|Ze<|?_
  obtain ⟨r1, hl1, ho1⟩ := Qu h
  refine L1 (fun i=>⟨[(1, .str name), (2, .rp [.int .i64 m.Version, .sl 36 (List.map R36 m.Params)] 0), (8, .int .i64 (m.Params.length : Int)), (9, .int .i64 i)], []⟩) hl1 (ES []) fun n1 i h=>?_
  unfold JG at h
  refine Tr<|R2 ZH Y<|Za<|Zh<|If h Y (fun h=>?_) fun h=>?_
  ·
   refine Zd<|Zh<|Ze<|K4 1 2 8 9 Y<|Tr<|Rm Y<|Ra Y<|Za<|K5 1 2 5 8 9 Y<|Tr<|Rq Y (Zc (ov Y) Q1)<|Rq Y (Zb (ov Y) Zbv Y)<|Rm Y<|bE h fun x h_x h=>Rq Y (Zw (ov Y) (ov Y) Xy h_x)<|Rq Y (Zc (ov Y) Xx)<|Rq Y (Zb (ov Y) tS9 Y)<|Rm Y<|R2 Zb5 Y<|Za<|K6 1 2 5 8 9 19 Y<|If h Y (fun h=>?_) fun h=>?_
   ·
    refine K2 2 5 Y<|Tr<|Rq Y (Zc (ov Y) Q1)<|Rq Y (Zb (ov Y) Zbv Y)<|Rm Y<|bE h fun x2 h_x2 h=>Rq Y (Zw (ov Y) (ov Y) Xy h_x2)<|Ra Y<|Za<|?_
    replace h := lx h ▸ ho1
    obtain rfl := rt h
    exact Zk (Zq Y (.one<|rb Y))
   ·
    exact Zd<|K4 1 2 8 9 Y<|Zs<|R2 ZX Y<|Rm Y<|Za<|⟨_, h, ES []⟩
  ·
   refine Zz<|?_
   replace h := lx h ▸ ho1
   exact ⟨_, h, ES []⟩
 ·
  replace h := elr h
  replace h := t0i h
  refine Tr<|Ra Y<|Za<|?_
  obtain rfl := rt h
  exact Zk (Zq Y (.one<|rb Y))
theorem Zb3 {m : api_Map} {name : Str} {r : Unit} (h : XY m name = some (.inl r)) :
    CSpec Try.prog gl0 11 [.agg [.int .i64 m.Version, .sl 36 (List.map R36 m.Params)], .str name] (.lit (.pointer none)) := ZdO h
theorem ZbU {m : api_Map} {name : Str} {r : api_Param} (h : XY m name = some (.inr r)) :
    CSpec Try.prog gl0 11 [.agg [.int .i64 m.Version, .sl 36 (List.map R36 m.Params)], .str name] (.rp [.str r.Name, .int .i64 r.Kind, .sl 49 (List.map R49 r.Parts), .int .i64 r.First, .int .i64 r.Every, .int .i64 r.Times, .int .i64 r.Step, .sl 9 (List.map R9 r.Names)] 0) := ZdO h
theorem JS {name : Str} {kind : Int} {c0 : List api_MapChange} {r : (List api_MapChange)} (h : Qp name kind c0 = some r) :
 GSpec Try.prog gl0 10 [.str name, .int .i64 kind, .ptr 0 1 0 0] [some ⟨25, [[.own 1 c0.length]]⟩, some ⟨31, List.map R31 c0⟩] (.tuple []) [some ⟨25, [[.own 2 r.length]]⟩, none, some ⟨31, List.map R31 r⟩] := by
 unfold Qp at h
 replace h := Qh h
 refine Ze4 (by kernel_rfl) Try.func10 Y Y<|?_
 intro w0 A W φ0
 refine Zh2 (Ent.sel [some 0, some 1, some 1] (sd 0 Y Y<|sd 1 Y Y<|sr 2 Y (.ptr (r' := 0) _ _ _ Y) sn) (.cons Y (ro1 (by exact tZ_25.symm)<|rlc (.own (r' := 2) _ Y) rln)<|.dead<|.cons Y (roM D31) .nil) Y Y)<|Zs<|Rq Y (Zj (ov Y) Y Y Y Zk8 Y)<|Rm Y<|Rm Y<|Rq Y (Q3 (ys := [_, _]) ZhK Zhv Zj9 (.cons (cvs (ov Y)<|Zn Y)<|.cons (cvs (ov Y)<|Zn Y) .nil) Y)<|R_q (.sl 31<|List.map R31 ([(api_MapChange.mk name kind)] : List api_MapChange)) Y (Za6 Zd3 (.cons (cva<|ov Y) Y (pwD Y) .nil) Y Y)<|bE h fun l h_l h=>Rx Y (Xg (ov Y) (Xk (ov Y) tZ_31) Zd3 Y Y Y (fun _=>Zf Y) Y h_l)<|Rx Y (Zo (ov Y) (ov Y) (QR Zk8) Y Y Y (Nat.le_of_ble_eq_true Y) (Zf Y) Y)<|Za<|?_
 obtain rfl := rt h
 exact ZlL [some 0, some 1, some 2] Y .nil (.cons Y (ro1 (by exact tZ_25.symm)<|rlc (.own _ Y) rln)<|.dead<|.cons Y (roM D31) .nil) Y Y<|Zi2 rln
theorem XX {s1 : List Str} {s2 : List Str} {r : Bool} (h : ZK s1 s2 = some r) :
 CSpec Try.prog gl0 13 [.sl 9 (List.map R9 s1), .sl 9 (List.map R9 s2)] (.bool r) := by
 unfold ZK at h
 replace h := Qh h
 refine So Try.func13 Y fun w0 A=>Tr<|Ra Y<|Za<|Zh<|K2 0 1 Y<|Tr<|Rm Y<|Rl tZ_9 ZaX Y<|Rm Y<|Rl tZ_9 ZaX Y<|R2 Qd Y<|Za<|K3 0 1 10 Y<|If h Y (fun h=>?_) fun h=>?_
 ·
  refine K0<|Tr<|Ra Y<|Za<|?_
  obtain rfl := rt h
  exact Zk (Zq Y (.one<|rb Y))
 ·
  refine Zd<|J0 (fun j => (.inr j)) ⟨[], []⟩ h (fun h=>?_) fun h=>?_
  ·
   refine K2 0 1 Y<|Tr<|Rm Y<|Rl tZ_9 ZaX Y<|Rm Y<|Za<|Ze<|?_
   obtain ⟨r1, hl1, ho1⟩ := Qu h
   refine L1 (fun i=>⟨[(0, .sl 9 (List.map R9 s1)), (1, .sl 9 (List.map R9 s2)), (12, .int .i64 (s1.length : Int)), (13, .int .i64 i)], []⟩) hl1 (ES []) fun n1 i h=>?_
   unfold Qk at h
   refine Tr<|R2 ZH Y<|Za<|Zh<|If h Y (fun h=>?_) fun h=>?_
   ·
    refine Zd<|Zh<|Ze<|K4 0 1 12 13 Y<|Tr<|Rm Y<|Ra Y<|Za<|K5 0 1 5 12 13 Y<|Td md0<|D1 0 Zm Y<|D1 1 Zm Y<|bE h fun x h_x h=>Dq 2 Y (Zw (ov Y) (ov Y) ZaX h_x)<|Dq 3 Y (Zb (ov Y) tS9 Y)<|D1 4 Zm Y<|D1 5 Zm Y<|bE h fun x2 h_x2 h=>Dq 6 Y (Zw (ov Y) (ov Y) ZaX h_x2)<|Dq 7 Y (Zb (ov Y) tS9 Y)<|D2 8 Zhx Y<|Dd<|K5 0 1 12 13 24 Y<|If h Y (fun h=>?_) fun h=>?_
    ·
     refine K0<|Tr<|Ra Y<|Za<|?_
     replace h := lx h ▸ ho1
     obtain rfl := rt h
     exact Zk (Zq Y (.one<|rb Y))
    ·
     exact Zd<|K4 0 1 12 13 Y<|Zs<|R2 ZX Y<|Rm Y<|Za<|⟨_, h, ES []⟩
   ·
    refine Zz<|?_
    replace h := lx h ▸ ho1
    exact ⟨_, h, ES []⟩
  ·
   replace h := elr h
   replace h := t0i h
   refine Tr<|Ra Y<|Za<|?_
   obtain rfl := rt h
   exact Zk (Zq Y (.one<|rb Y))
theorem Xv {s1 : List api_Part} {s2 : List api_Part} {r : Bool} (h : ZE s1 s2 = some r) :
 CSpec Try.prog gl0 14 [.sl 49 (List.map R49 s1), .sl 49 (List.map R49 s2)] (.bool r) := by
 unfold ZE at h
 replace h := Qh h
 refine So Try.func14 Y fun w0 A=>Tr<|Ra Y<|Za<|Zh<|K2 0 1 Y<|Tr<|Rm Y<|Rl tZ_49 JD Y<|Rm Y<|Rl tZ_49 JD Y<|R2 Qd Y<|Za<|K3 0 1 10 Y<|If h Y (fun h=>?_) fun h=>?_
 ·
  refine K0<|Tr<|Ra Y<|Za<|?_
  obtain rfl := rt h
  exact Zk (Zq Y (.one<|rb Y))
 ·
  refine Zd<|J0 (fun j => (.inr j)) ⟨[], []⟩ h (fun h=>?_) fun h=>?_
  ·
   refine K2 0 1 Y<|Tr<|Rm Y<|Rl tZ_49 JD Y<|Rm Y<|Za<|Ze<|?_
   obtain ⟨r1, hl1, ho1⟩ := Qu h
   refine L1 (fun i=>⟨[(0, .sl 49 (List.map R49 s1)), (1, .sl 49 (List.map R49 s2)), (12, .int .i64 (s1.length : Int)), (13, .int .i64 i)], []⟩) hl1 (ES []) fun n1 i h=>?_
   unfold Z5 at h
   refine Tr<|R2 ZH Y<|Za<|Zh<|If h Y (fun h=>?_) fun h=>?_
   ·
    refine Zd<|Zh<|Ze<|K4 0 1 12 13 Y<|Tr<|Rm Y<|Ra Y<|Za<|K5 0 1 5 12 13 Y<|Td md0<|D1 0 Zm Y<|D1 1 Zm Y<|bE h fun x h_x h=>Dq 2 Y (Zw (ov Y) (ov Y) JD h_x)<|Dq 3 Y (Zg (ov Y) ZbR Y Y)<|D1 4 Zm Y<|D1 5 Zm Y<|bE h fun x2 h_x2 h=>Dq 6 Y (Zw (ov Y) (ov Y) JD h_x2)<|Dq 7 Y (Zg (ov Y) ZbR Y Y)<|Dq 8 Y (Zh8 ZkY (ov Y) (ov Y) (.aggB Y) (.aggB Y) Y Y)<|Dd<|K5 0 1 12 13 24 Y<|If h Y (fun h=>?_) fun h=>?_
    ·
     refine K0<|Tr<|Ra Y<|Za<|?_
     replace h := lx h ▸ ho1
     obtain rfl := rt h
     exact Zk (Zq Y (.one<|rb Y))
    ·
     exact Zd<|K4 0 1 12 13 Y<|Zs<|R2 ZX Y<|Rm Y<|Za<|⟨_, h, ES []⟩
   ·
    refine Zz<|?_
    replace h := lx h ▸ ho1
    exact ⟨_, h, ES []⟩
  ·
   replace h := elr h
   replace h := t0i h
   refine Tr<|Ra Y<|Za<|?_
   obtain rfl := rt h
   exact Zk (Zq Y (.one<|rb Y))
theorem Zgk {a : api_Map} {b : api_Map} {r : (List api_MapChange) × Int} (h : ZbB a b = some r) :
 CSpec Try.prog gl0 4 [.agg [.int .i64 a.Version, .sl 36 (List.map R36 a.Params)], .agg [.int .i64 b.Version, .sl 36 (List.map R36 b.Params)]] (.tuple [.sl 31 (List.map R31 r.1), .int .i64 r.2]) := by
 unfold ZbB at h
 replace h := Qh h
 refine So Try.func4 Y fun w0 A=>Tr<|Rq Y (Z3 (cva<|ov Y) Y tZ_24 Y)<|Rq Y (Z3 (cva<|ov Y) Y tZ_24 Y)<|Ra Y<|Ra Y<|Za<|J0 (fun j => (.inr j)) ⟨[(2, .rp [.int .i64 a.Version, .sl 36 (List.map R36 a.Params)] 0), (3, .rp [.int .i64 b.Version, .sl 36 (List.map R36 b.Params)] 0)], []⟩ h (fun h=>?_) fun h=>?_
 ·
  refine K2 2 3 Y<|Tr<|Rq Y (Zg (ov Y) ZbE Y Y)<|Rq Y (Zg (ov Y) ZbE Y Y)<|R_q (.sl 24<|List.map R24 ([a, b] : List api_Map)) Y (Za6 Zjf (.cons (cva<|ov Y) Y (pwD Y)<|.cons (cva<|ov Y) Y (pwD Y) .nil) Y Y)<|Rl tZ_24 Zjf Y<|Rm Y<|Za<|Ze<|?_
  obtain ⟨r1, hl1, ho1⟩ := Qu h
  refine L1 (fun i=>⟨[(2, .rp [.int .i64 a.Version, .sl 36 (List.map R36 a.Params)] 0), (3, .rp [.int .i64 b.Version, .sl 36 (List.map R36 b.Params)] 0), (19, .sl 24 (List.map R24 ([a, b] : List api_Map))), (20, .int .i64 (([a, b] : List api_Map).length : Int)), (21, .int .i64 i)], []⟩) hl1 (ES []) fun n1 i h=>?_
  unfold ZbV at h
  refine Tr<|R2 ZH Y<|Za<|Zh<|If h Y (fun h=>?_) fun h=>?_
  ·
   refine Zd<|Zh<|Ze<|K5 2 3 19 20 21 Y<|Tr<|bE h fun x h_x h=>Rq Y (Zw (ov Y) (ov Y) Zjf h_x)<|Rq Y (Zg (ov Y) ZbE Y Y)<|Rx Y (Zr (row := [_, _]) 0 Y Zku Y tZ_24)<|Rx Y (Zo (ov Y) (ov Y) (Zl ZbE Y) Y Y Y (Nat.le_of_ble_eq_true Y) (Zf Y) Y)<|Za<|K6 2 3 7 19 20 21 Y<|Tr<|Rq Y (Z0 (ov Y) Y Y Y ZbE Y Y)<|bE h fun y h_y h=>Rq Y (Zp (ZbD h_y)<|.cons (ov Y) (.aggB Y) .nil)<|Rm Y<|Rq Y (ZM (ov Y) Y)<|Rq Y (ZM (ov Y) Y)<|Ra Y<|Ra Y<|Za<|K6 2 3 9 19 20 21 Y<|Tr<|Rm Y<|R2 Qd Y<|Za<|K7 2 3 9 19 20 21 31 Y<|If h Y (fun h=>?_) fun h=>?_
   ·
    refine K1 9 Y<|Tr<|Rm Y<|Ra Y<|Ra Y<|Za<|?_
    replace h := lx h ▸ ho1
    obtain rfl := rt h
    exact Zk (Zq Y (.two (.tmp Y<|View.nils 31)<|rb Y))
   ·
    exact Zd<|K5 2 3 19 20 21 Y<|Zs<|R2 ZX Y<|Rm Y<|Za<|⟨_, h, ES []⟩
  ·
   refine Zz<|?_
   replace h := lx h ▸ ho1
   exact ⟨_, h, ES []⟩
 ·
  replace h := elr h
  replace h := t0i h
  refine Tr<|Rx Y (Zr (row := [_]) 0 Y Zmo Y tZ_25)<|Za<|Tr<|Rq Y (Qt<|.cons (ov Y) .nil)<|Ra Y<|Za<|I1 (fun out=>⟨[(2, .rp [.int .i64 a.Version, .sl 36 (List.map R36 a.Params)] 0), (3, .rp [.int .i64 b.Version, .sl 36 (List.map R36 b.Params)] 0), (10, .ptr 0 1 0 0), (11, .fn 10 [.ptr 0 1 0 0])], [some ⟨25, [[.own 1 out.length]]⟩, some ⟨31, List.map R31 out⟩]⟩) h (fun h=>?_) fun out h=>?_
  ·
   refine K4 2 3 10 11 Y<|Tr<|Rq Y (Zc (ov Y) Q1)<|Rq Y (Zb (ov Y) Zbv Y)<|Rl tZ_36 Xy Y<|Rm Y<|Za<|Ze<|?_
   obtain ⟨r2, hl2, ho2⟩ := Qu h
   refine L2 (fun out2 i2=>⟨[(2, .rp [.int .i64 a.Version, .sl 36 (List.map R36 a.Params)] 0), (3, .rp [.int .i64 b.Version, .sl 36 (List.map R36 b.Params)] 0), (10, .ptr 0 1 0 0), (11, .fn 10 [.ptr 0 1 0 0]), (36, .sl 36 (List.map R36 a.Params)), (37, .int .i64 (a.Params.length : Int)), (38, .int .i64 i2)], [some ⟨25, [[.own 1 out2.length]]⟩, some ⟨31, List.map R31 out2⟩]⟩) hl2 (ES [some 0, none]) fun n2 out2 i2 h=>?_
   unfold XR at h
   refine Tr<|R2 ZH Y<|Za<|Zh<|If h Y (fun h=>?_) fun h=>?_
   ·
    refine Zd<|Zh<|Ze<|K7 2 3 10 11 36 37 38 Y<|Tr<|bE h fun x2 h_x2 h=>Rq Y (Zw (ov Y) (ov Y) Xy h_x2)<|Rq Y (Zg (ov Y) Qi Y Y)<|Rx Y (Zr (row := [_, _, _, _, _, _, _, _]) 2 Y Zcu Y tZ_36)<|Rx Y (Zo (ov Y) (ov Y) (Zl Qi Y) Y Y Y (Nat.le_of_ble_eq_true Y) (Zf Y) Y)<|Za<|K8 2 3 10 11 13 36 37 38 Y<|Tr<|Rq Y (Zg (ov Y) ZbE Y Y)<|Rq Y (Zi (ov Y) Y Y Xx)<|Rq Y (Zj (ov Y) Y Y Y tS9 Y)<|bE h fun y2 h_y2 h=>?_
    rcases y2 with y2 | y2
    ·
     replace h := ell h
     refine Rq Y (Zp (Zb3 h_y2)<|.cons (ov Y) (.aggB Y)<|.cons (ov Y) (.b Y) .nil)<|Ra Y<|Za<|Zh<|K9 2 3 10 11 13 14 36 37 38 Y<|Tr<|Rm Y<|Rq Y (ZiG Zit (ov Y)<|ov Y)<|Za<|K10 2 3 10 11 13 14 36 37 38 47 Y<|Zhh h Y (fun b47 h=>?_) fun b47 h=>?_
     ·
      exact K8 2 3 10 11 13 36 37 38 Y<|Tr<|Rm Y<|Rq Y (Zi (ov Y) Y Y Xx)<|Rq Y (Zj (ov Y) Y Y Y tS9 Y)<|bE h fun y3 h_y3 h=>Rx Y (Ze2 [0, 1] (ov rfl) (rlc (.ptr (r' := 0) _ _ _ rfl) rln) (.cons (ov Y) (.dat Y)<|.cons (ov Y) (.dat Y) .nil) (JS h_y3) (.cons Y (ro1 (by exact tZ_25.symm)<|rlc (.own _ Y) rln)<|.cons Y (roM D31) .nil) Y (.lent 0 (.inl Y) Y (ro1 (by exact tZ_25.symm)<|rlc (.own _<|.inr ⟨Nat.le_of_ble_eq_true Y, Y⟩) rln)<|.none<|.keep Y Y<|.lent 2 (.inr ⟨Nat.le_of_ble_eq_true Y, Y⟩) Y (roM D31) .nil) Y Y<|Zi2<|rld Y)<|Za<|Zz<|K7 2 3 10 11 36 37 38 Y<|Zs<|R2 ZX Y<|Rm Y<|Za<|⟨_, h, ES [some 0, some 3]⟩
     ·
      exact Bool.noConfusion b47
    ·
     replace h := elr h
     refine Rq Y (Zp (ZbU h_y2)<|.cons (ov Y) (.aggB Y)<|.cons (ov Y) (.b Y) .nil)<|Ra Y<|Za<|Zh<|K9 2 3 10 11 13 14 36 37 38 Y<|Tr<|Rm Y<|Rq Y (ZiN Zit (ov Y)<|ov Y)<|Za<|K10 2 3 10 11 13 14 36 37 38 47 Y<|Zhh h Y (fun b47 h=>?_) fun b47 h=>?_
     ·
      exact Bool.noConfusion b47
     ·
      refine Zd<|I1 (fun out3=>⟨[(2, .rp [.int .i64 a.Version, .sl 36 (List.map R36 a.Params)] 0), (3, .rp [.int .i64 b.Version, .sl 36 (List.map R36 b.Params)] 0), (10, .ptr 0 1 0 0), (11, .fn 10 [.ptr 0 1 0 0]), (13, .ptr 2 1 0 0), (14, .rp [.str y2.Name, .int .i64 y2.Kind, .sl 49 (List.map R49 y2.Parts), .int .i64 y2.First, .int .i64 y2.Every, .int .i64 y2.Times, .int .i64 y2.Step, .sl 9 (List.map R9 y2.Names)] 0), (36, .sl 36 (List.map R36 a.Params)), (37, .int .i64 (a.Params.length : Int)), (38, .int .i64 i2)], [some ⟨25, [[.own 1 out3.length]]⟩, some ⟨31, List.map R31 out3⟩, some ⟨36, [[.str x2.Name, .int .i64 x2.Kind, .sl 49 (List.map R49 x2.Parts), .int .i64 x2.First, .int .i64 x2.Every, .int .i64 x2.Times, .int .i64 x2.Step, .sl 9 (List.map R9 x2.Names)]]⟩]⟩) h (fun h=>?_) fun out3 h=>?_
      ·
       refine K9 2 3 10 11 13 14 36 37 38 Y<|Td md0<|Dq 0 Y (Zi (ov Y) Y Y Jc)<|Dq 1 Y (Zj (ov Y) Y Y Y tS3 Y)<|D1 2 Zm Y<|D1 3 XZ Y<|Dq 4 Y (Zc (ov Y) Jc)<|Dq 5 Y (Zb (ov Y) tS3 Y)<|D2 6 Qd Y<|D1 7 Zm Y<|Dq 8 Y (.guarded ((!decide (x2.Kind = y2.Kind)) == false) Y Y Y Y fun h => Z0 (ov Y) Y Y Y Qi Y Y)<|bE h fun y4 h_y4 h=>Dq 9 Y (.guarded ((!decide (x2.Kind = y2.Kind)) == false) Y Y Y Y fun h => Zp (Xf<|gdT h_y4 h)<|.cons (ow Y h) (.aggB Y) .nil)<|Dq 10 Y (.guarded ((!decide (x2.Kind = y2.Kind)) == false) Y Y Y Y fun h => Zm<|ov Y)<|Dq 11 Y (.guarded ((!decide (x2.Kind = y2.Kind)) == false) Y Y Y Y fun h => XZ<|ow Y h)<|Dq 12 Y (.guarded ((!decide (x2.Kind = y2.Kind)) == false) Y Y Y Y fun h => Zg (ow Y h) Qi Y Y)<|bE h fun y5 h_y5 h=>Dq 13 Y (.guarded ((!decide (x2.Kind = y2.Kind)) == false) Y Y Y Y fun h => Zp (Xf<|gdT h_y5 h)<|.cons (ow Y h) (.aggB Y) .nil)<|Dq 14 Y (.guarded ((!decide (x2.Kind = y2.Kind)) == false) Y Y Y Y fun h => Qd (ow Y h)<|ow Y h)<|Dq 15 Y (QZ (ov Y) fun hp=>ow Y<|gF hp)<|D1 16 Zm Y<|Dq 17 Y (.guarded (((!decide (x2.Kind = y2.Kind)) || (!decide (y4 = y5))) == false) Y Y Y Y fun h => Zi (ov Y) Y Y X3)<|Dq 18 Y (.guarded (((!decide (x2.Kind = y2.Kind)) || (!decide (y4 = y5))) == false) Y Y Y Y fun h => Zj (ow Y h) Y Y Y Zc1 Y)<|Dq 19 Y (.guarded (((!decide (x2.Kind = y2.Kind)) || (!decide (y4 = y5))) == false) Y Y Y Y fun h => Zm<|ov Y)<|Dq 20 Y (.guarded (((!decide (x2.Kind = y2.Kind)) || (!decide (y4 = y5))) == false) Y Y Y Y fun h => XZ<|ow Y h)<|Dq 21 Y (.guarded (((!decide (x2.Kind = y2.Kind)) || (!decide (y4 = y5))) == false) Y Y Y Y fun h => Zc (ow Y h) X3)<|Dq 22 Y (.guarded (((!decide (x2.Kind = y2.Kind)) || (!decide (y4 = y5))) == false) Y Y Y Y fun h => Zb (ow Y h) Zc1 Y)<|bE h fun y6 h_y6 h=>Dq 23 Y (.guarded (((!decide (x2.Kind = y2.Kind)) || (!decide (y4 = y5))) == false) Y Y Y Y fun h => Zp (XX<|gdT h_y6 h)<|.cons (ow Y h) (.b Y)<|.cons (ow Y h) (.b Y) .nil)<|Dq 24 Y (.guarded (((!decide (x2.Kind = y2.Kind)) || (!decide (y4 = y5))) == false) Y Y Y Y fun h => Xb<|ow Y h)<|Dq 25 Y (QZ (ov Y) fun hp=>ow Y<|gF hp)<|Dd<|K10 2 3 10 11 13 14 36 37 38 77 Y<|If h Y (fun h=>?_) fun h=>?_
       ·
        exact K9 2 3 10 11 13 14 36 37 38 Y<|Zs<|Rm Y<|Rq Y (Zi (ov Y) Y Y Xx)<|Rq Y (Zj (ov Y) Y Y Y tS9 Y)<|bE h fun y7 h_y7 h=>Rx Y (Ze2 [0, 1] (ov rfl) (rlc (.ptr (r' := 0) _ _ _ rfl) rln) (.cons (ov Y) (.dat Y)<|.cons (ov Y) (.dat Y) .nil) (JS h_y7) (.cons Y (ro1 (by exact tZ_25.symm)<|rlc (.own _ Y) rln)<|.cons Y (roM D31) .nil) Y (.lent 0 (.inl Y) Y (ro1 (by exact tZ_25.symm)<|rlc (.own _<|.inr ⟨Nat.le_of_ble_eq_true Y, Y⟩) rln)<|.none<|.keep Y Y<|.lent 2 (.inr ⟨Nat.le_of_ble_eq_true Y, Y⟩) Y (roM D31) .nil) Y Y<|Zi2<|rld Y)<|Za<|⟨_, h, ES [some 0, some 3, some 2]⟩
       ·
        exact Zd<|⟨_, h, ES [some 0, some 1, some 2]⟩
      ·
       refine Td md0<|Dq 0 Y (Zi (ov Y) Y Y XQ)<|Dq 1 Y (Zj (ov Y) Y Y Y ZcE Y)<|D1 2 Zm Y<|D1 3 XZ Y<|Dq 4 Y (Zc (ov Y) XQ)<|Dq 5 Y (Zb (ov Y) ZcE Y)<|bE h fun y8 h_y8 h=>Dq 6 Y (Zp (Xv h_y8)<|.cons (ov Y) (.b Y)<|.cons (ov Y) (.b Y) .nil)<|D1 7 Xb Y<|D1 8 Zm Y<|Dq 9 Y (.guarded ((!y8) == false) Y Y Y Y fun h => Zi (ov Y) Y Y Zcl)<|Dq 10 Y (.guarded ((!y8) == false) Y Y Y Y fun h => Zj (ow Y h) Y Y Y tS3 Y)<|Dq 11 Y (.guarded ((!y8) == false) Y Y Y Y fun h => Zm<|ov Y)<|Dq 12 Y (.guarded ((!y8) == false) Y Y Y Y fun h => XZ<|ow Y h)<|Dq 13 Y (.guarded ((!y8) == false) Y Y Y Y fun h => Zc (ow Y h) Zcl)<|Dq 14 Y (.guarded ((!y8) == false) Y Y Y Y fun h => Zb (ow Y h) tS3 Y)<|Dq 15 Y (.guarded ((!y8) == false) Y Y Y Y fun h => Qd (ow Y h)<|ow Y h)<|Dq 16 Y (QZ (ov Y) fun hp=>ow Y<|gF hp)<|D1 17 Zm Y<|Dq 18 Y (.guarded (((!y8) || (!decide (x2.First = y2.First))) == false) Y Y Y Y fun h => Zi (ov Y) Y Y ZbH)<|Dq 19 Y (.guarded (((!y8) || (!decide (x2.First = y2.First))) == false) Y Y Y Y fun h => Zj (ow Y h) Y Y Y tS3 Y)<|Dq 20 Y (.guarded (((!y8) || (!decide (x2.First = y2.First))) == false) Y Y Y Y fun h => Zm<|ov Y)<|Dq 21 Y (.guarded (((!y8) || (!decide (x2.First = y2.First))) == false) Y Y Y Y fun h => XZ<|ow Y h)<|Dq 22 Y (.guarded (((!y8) || (!decide (x2.First = y2.First))) == false) Y Y Y Y fun h => Zc (ow Y h) ZbH)<|Dq 23 Y (.guarded (((!y8) || (!decide (x2.First = y2.First))) == false) Y Y Y Y fun h => Zb (ow Y h) tS3 Y)<|Dq 24 Y (.guarded (((!y8) || (!decide (x2.First = y2.First))) == false) Y Y Y Y fun h => Qd (ow Y h)<|ow Y h)<|Dq 25 Y (QZ (ov Y) fun hp=>ow Y<|gF hp)<|D1 26 Zm Y<|Dq 27 Y (.guarded ((((!y8) || (!decide (x2.First = y2.First))) || (!decide (x2.Every = y2.Every))) == false) Y Y Y Y fun h => Zi (ov Y) Y Y J3)<|Dq 28 Y (.guarded ((((!y8) || (!decide (x2.First = y2.First))) || (!decide (x2.Every = y2.Every))) == false) Y Y Y Y fun h => Zj (ow Y h) Y Y Y tS3 Y)<|Dq 29 Y (.guarded ((((!y8) || (!decide (x2.First = y2.First))) || (!decide (x2.Every = y2.Every))) == false) Y Y Y Y fun h => Zm<|ov Y)<|Dq 30 Y (.guarded ((((!y8) || (!decide (x2.First = y2.First))) || (!decide (x2.Every = y2.Every))) == false) Y Y Y Y fun h => XZ<|ow Y h)<|Dq 31 Y (.guarded ((((!y8) || (!decide (x2.First = y2.First))) || (!decide (x2.Every = y2.Every))) == false) Y Y Y Y fun h => Zc (ow Y h) J3)<|Dq 32 Y (.guarded ((((!y8) || (!decide (x2.First = y2.First))) || (!decide (x2.Every = y2.Every))) == false) Y Y Y Y fun h => Zb (ow Y h) tS3 Y)<|Dq 33 Y (.guarded ((((!y8) || (!decide (x2.First = y2.First))) || (!decide (x2.Every = y2.Every))) == false) Y Y Y Y fun h => Qd (ow Y h)<|ow Y h)<|Dq 34 Y (QZ (ov Y) fun hp=>ow Y<|gF hp)<|D1 35 Zm Y<|Dq 36 Y (.guarded (((((!y8) || (!decide (x2.First = y2.First))) || (!decide (x2.Every = y2.Every))) || (!decide (x2.Times = y2.Times))) == false) Y Y Y Y fun h => Zi (ov Y) Y Y Zaa)<|Dq 37 Y (.guarded (((((!y8) || (!decide (x2.First = y2.First))) || (!decide (x2.Every = y2.Every))) || (!decide (x2.Times = y2.Times))) == false) Y Y Y Y fun h => Zj (ow Y h) Y Y Y tS3 Y)<|Dq 38 Y (.guarded (((((!y8) || (!decide (x2.First = y2.First))) || (!decide (x2.Every = y2.Every))) || (!decide (x2.Times = y2.Times))) == false) Y Y Y Y fun h => Zm<|ov Y)<|Dq 39 Y (.guarded (((((!y8) || (!decide (x2.First = y2.First))) || (!decide (x2.Every = y2.Every))) || (!decide (x2.Times = y2.Times))) == false) Y Y Y Y fun h => XZ<|ow Y h)<|Dq 40 Y (.guarded (((((!y8) || (!decide (x2.First = y2.First))) || (!decide (x2.Every = y2.Every))) || (!decide (x2.Times = y2.Times))) == false) Y Y Y Y fun h => Zc (ow Y h) Zaa)<|Dq 41 Y (.guarded (((((!y8) || (!decide (x2.First = y2.First))) || (!decide (x2.Every = y2.Every))) || (!decide (x2.Times = y2.Times))) == false) Y Y Y Y fun h => Zb (ow Y h) tS3 Y)<|Dq 42 Y (.guarded (((((!y8) || (!decide (x2.First = y2.First))) || (!decide (x2.Every = y2.Every))) || (!decide (x2.Times = y2.Times))) == false) Y Y Y Y fun h => Qd (ow Y h)<|ow Y h)<|Dq 43 Y (QZ (ov Y) fun hp=>ow Y<|gF hp)<|Dd<|K9 2 3 10 11 13 36 37 38 125 Y<|If h Y (fun h=>?_) fun h=>?_
       ·
        exact K8 2 3 10 11 13 36 37 38 Y<|Zs<|Rm Y<|Rq Y (Zi (ov Y) Y Y Xx)<|Rq Y (Zj (ov Y) Y Y Y tS9 Y)<|bE h fun y9 h_y9 h=>Rx Y (Ze2 [0, 1] (ov rfl) (rlc (.ptr (r' := 0) _ _ _ rfl) rln) (.cons (ov Y) (.dat Y)<|.cons (ov Y) (.dat Y) .nil) (JS h_y9) (.cons Y (ro1 (by exact tZ_25.symm)<|rlc (.own _ Y) rln)<|.cons Y (roM D31) .nil) Y (.lent 0 (.inl Y) Y (ro1 (by exact tZ_25.symm)<|rlc (.own _<|.inr ⟨Nat.le_of_ble_eq_true Y, Y⟩) rln)<|.none<|.keep Y Y<|.lent 2 (.inr ⟨Nat.le_of_ble_eq_true Y, Y⟩) Y (roM D31) .nil) Y Y<|Zi2<|rld Y)<|Za<|K7 2 3 10 11 36 37 38 Y<|Zs<|R2 ZX Y<|Rm Y<|Za<|⟨_, h, ES [some 0, some 3]⟩
       ·
        exact Zd<|K7 2 3 10 11 36 37 38 Y<|Zs<|R2 ZX Y<|Rm Y<|Za<|⟨_, h, ES [some 0, some 1]⟩
   ·
    refine Zz<|?_
    replace h := lx h ▸ ho2
    exact ⟨_, h, ES [some 0, some 1]⟩
  ·
   refine I1 (fun out4=>⟨[(10, .ptr 0 1 0 0)], [some ⟨25, [[.own 1 out4.length]]⟩, some ⟨31, List.map R31 out4⟩]⟩) h (fun h=>?_) fun out4 h=>?_
   ·
    refine Tr<|Rq Y (Zc (ov Y) Q1)<|Rq Y (Zb (ov Y) Zbv Y)<|Rl tZ_36 Xy Y<|Rm Y<|Za<|Ze<|?_
    obtain ⟨r3, hl3, ho3⟩ := Qu h
    refine L2 (fun out5 i3=>⟨[(2, .rp [.int .i64 a.Version, .sl 36 (List.map R36 a.Params)] 0), (10, .ptr 0 1 0 0), (11, .fn 10 [.ptr 0 1 0 0]), (132, .sl 36 (List.map R36 b.Params)), (133, .int .i64 (b.Params.length : Int)), (134, .int .i64 i3)], [some ⟨25, [[.own 1 out5.length]]⟩, some ⟨31, List.map R31 out5⟩]⟩) hl3 (ES [some 0, some 1]) fun n3 out5 i3 h=>?_
    unfold XP at h
    refine Tr<|R2 ZH Y<|Za<|Zh<|If h Y (fun h=>?_) fun h=>?_
    ·
     refine Zd<|Zh<|Ze<|K6 2 10 11 132 133 134 Y<|Tr<|bE h fun x3 h_x3 h=>Rq Y (Zw (ov Y) (ov Y) Xy h_x3)<|Rq Y (Zg (ov Y) Qi Y Y)<|Rx Y (Zr (row := [_, _, _, _, _, _, _, _]) 2 Y Zcu Y tZ_36)<|Rx Y (Zo (ov Y) (ov Y) (Zl Qi Y) Y Y Y (Nat.le_of_ble_eq_true Y) (Zf Y) Y)<|Za<|K7 2 10 11 16 132 133 134 Y<|Tr<|Rq Y (Zg (ov Y) ZbE Y Y)<|Rq Y (Zi (ov Y) Y Y Xx)<|Rq Y (Zj (ov Y) Y Y Y tS9 Y)<|bE h fun y10 h_y10 h=>?_
     rcases y10 with y10 | y10
     ·
      replace h := ell h
      refine Rq Y (Zp (Zb3 h_y10)<|.cons (ov Y) (.aggB Y)<|.cons (ov Y) (.b Y) .nil)<|Rq Y (ZiG Zit (ov Y)<|ov Y)<|Za<|K8 2 10 11 16 132 133 134 142 Y<|Zhh h Y (fun b142 h=>?_) fun b142 h=>?_
      ·
       exact K7 2 10 11 16 132 133 134 Y<|Zs<|Rm Y<|Rq Y (Zi (ov Y) Y Y Xx)<|Rq Y (Zj (ov Y) Y Y Y tS9 Y)<|bE h fun y11 h_y11 h=>Rx Y (Ze2 [0, 1] (ov rfl) (rlc (.ptr (r' := 0) _ _ _ rfl) rln) (.cons (ov Y) (.dat Y)<|.cons (ov Y) (.dat Y) .nil) (JS h_y11) (.cons Y (ro1 (by exact tZ_25.symm)<|rlc (.own _ Y) rln)<|.cons Y (roM D31) .nil) Y (.lent 0 (.inl Y) Y (ro1 (by exact tZ_25.symm)<|rlc (.own _<|.inr ⟨Nat.le_of_ble_eq_true Y, Y⟩) rln)<|.none<|.keep Y Y<|.lent 2 (.inr ⟨Nat.le_of_ble_eq_true Y, Y⟩) Y (roM D31) .nil) Y Y<|Zi2<|rld Y)<|Za<|K6 2 10 11 132 133 134 Y<|Zs<|R2 ZX Y<|Rm Y<|Za<|⟨_, h, ES [some 0, some 3]⟩
      ·
       exact Bool.noConfusion b142
     ·
      replace h := elr h
      refine Rq Y (Zp (ZbU h_y10)<|.cons (ov Y) (.aggB Y)<|.cons (ov Y) (.b Y) .nil)<|Rq Y (ZiN Zit (ov Y)<|ov Y)<|Za<|K8 2 10 11 16 132 133 134 142 Y<|Zhh h Y (fun b142 h=>?_) fun b142 h=>?_
      ·
       exact Bool.noConfusion b142
      ·
       exact Zd<|K6 2 10 11 132 133 134 Y<|Zs<|R2 ZX Y<|Rm Y<|Za<|⟨_, h, ES [some 0, some 1]⟩
    ·
     refine Zz<|?_
     replace h := lx h ▸ ho3
     exact ⟨_, h, ES [some 0, some 1]⟩
   ·
    refine Tr<|Rq Y (Zj (ov Y) Y Y Y Zk8 Y)<|Ra Y<|Ra Y<|Za<|?_
    obtain rfl := rt h
    exact Zk (Zq Y (.two (.tmp Y<|View.ownM Y Y D31)<|rb Y))
end Go.Proofs.Ytagddpmlkcgbaaa
