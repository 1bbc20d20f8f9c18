/- A text of the proof: a verified executor of the program form, or the contracts of the functions that the law reaches. -/
import Derived.Test.YtjjlfkjacmhcmaaVS
import Derived.Test.YtjjlfkjacmhcmaaVU
import Derived.Test.YtjjlfkjacmhcmaaShT
import Derived.Test.YtjjlfkjacmhcmaaProg
import Derived.Test.YtjjlfkjacmhcmaaLayF
set_option linter.all false
namespace Go.Proofs.Ytjjlfkjacmhcmaa
open Go Go.Vx
set_option maxRecDepth 10000
set_option maxHeartbeats 1000000
set_option linter.unusedVariables false
theorem tZ_64 : Try.prog.cellsOf 64 = 4 := by kernel_rfl
instance : SzD Try.prog 64 4 := ⟨tZ_64⟩
theorem tZ_9 : Try.prog.cellsOf 9 = 1 := by kernel_rfl
instance : SzD Try.prog 9 1 := ⟨tZ_9⟩
theorem tZ_44 : Try.prog.cellsOf 44 = 8 := by kernel_rfl
instance : SzD Try.prog 44 8 := ⟨tZ_44⟩
theorem Zao : tAgg Try.prog 24 2 = true := by kernel_rfl
theorem Zw : tAgg Try.prog 44 8 = true := by kernel_rfl
theorem JZ : X4 Try.prog 44 = some [.string ⟨#[]⟩, .int .i64 0, .slice none 0 0, .int .i64 0, .int .i64 0, .int .i64 0, .int .i64 0, .slice none 0 0] := by kernel_rfl
theorem tZ_24 : Try.prog.cellsOf 24 = 2 := by kernel_rfl
instance : SzD Try.prog 24 2 := ⟨tZ_24⟩
theorem ZhL : tFld Try.prog 24 0 0 = true := by kernel_rfl
theorem tS3 : tScal Try.prog 3 = true := by kernel_rfl
theorem QC : tFld Try.prog 24 1 1 = true := by kernel_rfl
theorem J5 : tScal Try.prog 22 = true := by kernel_rfl
theorem Qy : tSl Try.prog 22 44 8 104 = true := by kernel_rfl
theorem Zch : tFld Try.prog 44 0 0 = true := by kernel_rfl
theorem tS9 : tScal Try.prog 9 = true := by kernel_rfl
theorem Zgj : tStr Try.prog 9 = true := by kernel_rfl
theorem ZaR : tFld Try.prog 44 1 1 = true := by kernel_rfl
theorem Q4 : tFld Try.prog 44 2 2 = true := by kernel_rfl
theorem Zbv : tScal Try.prog 41 = true := by kernel_rfl
theorem Xs : tSl Try.prog 41 64 4 32 = true := by kernel_rfl
theorem X8 : tAgg Try.prog 64 4 = true := by kernel_rfl
theorem ZeR : X4 Try.prog 64 = some [.int .i64 0, .int .i64 0, .int .i64 0, .int .i64 0] := by kernel_rfl
theorem Ze2 : tFld Try.prog 64 0 0 = true := by kernel_rfl
theorem Zb9 : tFld Try.prog 64 1 1 = true := by kernel_rfl
theorem Zcd : tFld Try.prog 64 2 2 = true := by kernel_rfl
theorem Zdm : tFld Try.prog 64 3 3 = true := by kernel_rfl
theorem ZaS : tSl Try.prog 65 3 1 8 = true := by kernel_rfl
theorem tZ_3 : Try.prog.cellsOf 3 = 1 := by kernel_rfl
instance : SzD Try.prog 3 1 := ⟨tZ_3⟩
theorem ZdS : tFld Try.prog 44 4 4 = true := by kernel_rfl
theorem ZfY : tFld Try.prog 44 3 3 = true := by kernel_rfl
theorem ZaQ : tFld Try.prog 44 5 5 = true := by kernel_rfl
theorem Zbp : tFld Try.prog 44 6 6 = true := by kernel_rfl
theorem tB4 : (match Try.prog.underlying 4 with | some .bool => true | _ => false) = true := by kernel_rfl
theorem JI : tFld Try.prog 44 7 7 = true := by kernel_rfl
theorem Zdj : tScal Try.prog 42 = true := by kernel_rfl
theorem ZbX : tSl Try.prog 42 9 1 16 = true := by kernel_rfl
theorem Zg8 : tMap Try.prog 60 63 3 = true := by kernel_rfl
theorem tZ3 : X4 Try.prog 3 = some [.int .i64 0] := by kernel_rfl
theorem Zb6 : tSl Try.prog 28 34 4 48 = true := by kernel_rfl
theorem ZlN : ZaH Try.prog 34 = some [(0, 1), (1, 1), (2, 1), (3, 1)] := by kernel_rfl
theorem ZlL : ZcV Try.prog 34 = true := by kernel_rfl
theorem ZgJ : X4 Try.prog 34 = some [.int .i64 0, .int .i64 0, .int .i64 0, .slice none 0 0] := by kernel_rfl
theorem tZ_34 : Try.prog.cellsOf 34 = 4 := by kernel_rfl
instance : SzD Try.prog 34 4 := ⟨tZ_34⟩
theorem Zdn : tAgg Try.prog 34 4 = true := by kernel_rfl
theorem ZcX : tFld Try.prog 34 3 3 = true := by kernel_rfl
theorem Zhe : tScal Try.prog 32 = true := by kernel_rfl
theorem ZhQ : X4 Try.prog 59 = some [.int .i64 0, .int .i64 0, .int .i64 0, .int .i64 0] := by kernel_rfl
theorem tZ_59 : Try.prog.cellsOf 59 = 4 := by kernel_rfl
instance : SzD Try.prog 59 4 := ⟨tZ_59⟩
theorem Zkg : ZaH Try.prog 59 = some [(0, 1), (1, 1), (2, 1), (3, 1)] := by kernel_rfl
theorem Zlb : ZcV Try.prog 59 = true := by kernel_rfl
theorem Zfp : tAgg Try.prog 59 4 = true := by kernel_rfl
theorem ZdL : tSl Try.prog 32 59 4 32 = true := by kernel_rfl
theorem Zmw : Zdr Try.prog 63 [.i .i64, .i .i64, .i .i64] = true := by kernel_rfl
theorem ZmB : ZhC Try.prog 3 = some (.int .i64 0) := by kernel_rfl
theorem ZfU : tFld Try.prog 59 3 3 = true := by kernel_rfl
theorem Zh7 : tFld Try.prog 59 0 0 = true := by kernel_rfl
theorem ZhP : tFld Try.prog 59 1 1 = true := by kernel_rfl
theorem ZgI : tFld Try.prog 59 2 2 = true := by kernel_rfl
theorem ZmZ : ZaH Try.prog 63 = some [(0, 1), (1, 1), (2, 1)] := by kernel_rfl
theorem ZmV : ZcV Try.prog 63 = true := by kernel_rfl
theorem Zmh : X4 Try.prog 63 = some [.int .i64 0, .int .i64 0, .int .i64 0] := by kernel_rfl
theorem Zhx : tSl Try.prog 106 63 3 24 = true := by kernel_rfl
theorem tZ_63 : Try.prog.cellsOf 63 = 3 := by kernel_rfl
instance : SzD Try.prog 63 3 := ⟨tZ_63⟩
theorem Zi0 : tAgg Try.prog 63 3 = true := by kernel_rfl
theorem tZ_60 : Try.prog.cellsOf 60 = 1 := by kernel_rfl
instance : SzD Try.prog 60 1 := ⟨tZ_60⟩
theorem Zby : ZaH Try.prog 44 = some [(0, 1), (1, 1), (2, 1), (3, 1), (4, 1), (5, 1), (6, 1), (7, 1)] := by kernel_rfl
theorem ZbA : ZcV Try.prog 44 = true := by kernel_rfl
theorem Zmc : (match Try.prog.underlying 41 with | some (.slice _) => true | _ => false) = true := by kernel_rfl
theorem ZlS : (match Try.prog.underlying 42 with | some (.slice _) => true | _ => false) = true := by kernel_rfl
theorem ZlU : (match Try.prog.underlying 22 with | some (.slice _) => true | _ => false) = true := by kernel_rfl
theorem Zia : tMap Try.prog 54 108 4 = true := by kernel_rfl
theorem ZlR : tIntA Try.prog 108 3 3 .i64 = true := by kernel_rfl
theorem Zng : ZhC Try.prog 4 = some (.bool false) := by kernel_rfl
theorem ZmM : tArr Try.prog 108 3 3 1 = true := by kernel_rfl
theorem ZlP : X4 Try.prog 108 = some [.int .i64 0, .int .i64 0, .int .i64 0] := by kernel_rfl
theorem tZ_108 : Try.prog.cellsOf 108 = 3 := by kernel_rfl
instance : SzD Try.prog 108 3 := ⟨tZ_108⟩
theorem Zkr : tAgg Try.prog 108 3 = true := by kernel_rfl
theorem tZ_54 : Try.prog.cellsOf 54 = 1 := by kernel_rfl
instance : SzD Try.prog 54 1 := ⟨tZ_54⟩
theorem Zk5 : tFld Try.prog 34 1 1 = true := by kernel_rfl
theorem Zmk : tFld Try.prog 34 2 2 = true := by kernel_rfl
theorem ZlW : X4 Try.prog 24 = some [.int .i64 0, .slice none 0 0] := by kernel_rfl
theorem ZmT : Zdr Try.prog 64 [.i .i64, .i .i64, .i .i64, .i .i64] = true := by kernel_rfl
theorem ZmD : ZaH Try.prog 64 = some [(0, 1), (1, 1), (2, 1), (3, 1)] := by kernel_rfl
theorem ZmN : ZcV Try.prog 64 = true := by kernel_rfl
theorem ZmP : ZaH Try.prog 24 = some [(0, 1), (1, 1)] := by kernel_rfl
theorem ZmU : ZcV Try.prog 24 = true := by kernel_rfl
theorem Zlu : X4 Try.prog 66 = some [.slice none 0 0, .slice none 0 0, .slice none 0 0, .slice none 0 0, .slice none 0 0, .slice none 0 0, .slice none 0 0, .slice none 0 0, .slice none 0 0, .slice none 0 0, .slice none 0 0, .slice none 0 0, .slice none 0 0, .slice none 0 0, .slice none 0 0, .slice none 0 0] := by kernel_rfl
theorem tZ_66 : Try.prog.cellsOf 66 = 16 := by kernel_rfl
instance : SzD Try.prog 66 16 := ⟨tZ_66⟩
theorem ZdQ : tAgg Try.prog 66 16 = true := by kernel_rfl
theorem Zfm : tArr Try.prog 66 16 65 1 = true := by kernel_rfl
theorem Zfq : tScal Try.prog 65 = true := by kernel_rfl
theorem Zh1 : tFld Try.prog 34 0 0 = true := by kernel_rfl
theorem ZfR : X4 Try.prog 90 = some [.int .i64 0, .int .i64 0, .nilFunc, .nilFunc] := by kernel_rfl
theorem tZ_90 : Try.prog.cellsOf 90 = 4 := by kernel_rfl
instance : SzD Try.prog 90 4 := ⟨tZ_90⟩
theorem Zm7 : X4 Try.prog 87 = some [.nilFunc] := by kernel_rfl
theorem tZ_87 : Try.prog.cellsOf 87 = 1 := by kernel_rfl
instance : SzD Try.prog 87 1 := ⟨tZ_87⟩
theorem Zl4 : tScal Try.prog 87 = true := by kernel_rfl
theorem ZmR : X4 Try.prog 109 = some [.nilFunc] := by kernel_rfl
theorem tZ_109 : Try.prog.cellsOf 109 = 1 := by kernel_rfl
instance : SzD Try.prog 109 1 := ⟨tZ_109⟩
theorem Zjy : tScal Try.prog 109 = true := by kernel_rfl
theorem ZbF : tMap Try.prog 111 3 110 = true := by kernel_rfl
theorem tI3 : tInt Try.prog 3 .i64 = true := by kernel_rfl
theorem tZ_111 : Try.prog.cellsOf 111 = 1 := by kernel_rfl
instance : SzD Try.prog 111 1 := ⟨tZ_111⟩
theorem Zf5 : ZhC Try.prog 110 = some .nilFunc := by kernel_rfl
theorem ZjH : ZaH Try.prog 90 = some [(0, 1), (1, 1), (2, 1), (3, 1)] := by kernel_rfl
theorem Zjt : ZcV Try.prog 90 = true := by kernel_rfl
theorem ZbM : tAgg Try.prog 90 4 = true := by kernel_rfl
theorem Zl7 : tFld Try.prog 90 0 0 = true := by kernel_rfl
theorem Zml : tFld Try.prog 90 1 1 = true := by kernel_rfl
theorem Zl2 : tFld Try.prog 90 2 2 = true := by kernel_rfl
theorem Zlr : Zkx Try.prog 90 3 3 = true := by kernel_rfl
theorem ZlM : ZaH Try.prog 73 = some [(0, 1), (1, 1), (2, 1), (3, 1)] := by kernel_rfl
theorem ZlI : ZcV Try.prog 73 = true := by kernel_rfl
theorem Zmr : X4 Try.prog 73 = some [.int .i64 0, .int .i64 0, .int .i64 0, .bool false] := by kernel_rfl
theorem Zlw : tSl Try.prog 69 73 4 32 = true := by kernel_rfl
theorem tZ_73 : Try.prog.cellsOf 73 = 4 := by kernel_rfl
instance : SzD Try.prog 73 4 := ⟨tZ_73⟩
theorem Zni : tAgg Try.prog 73 4 = true := by kernel_rfl
theorem ZmG : Zdr Try.prog 73 [.i .i64, .i .i64, .i .i64, .b] = true := by kernel_rfl
def gl0 : Gl := ⟨0, []⟩
def R64 (x : api_Part) : List AV := [.int .i64 x.Frame, .int .i64 x.Word, .int .i64 x.Low, .int .i64 x.Bits]
def R9 (x : Str) : List AV := [.str x]
def R44 (x : api_Param) : List AV := [.str x.Name, .int .i64 x.Kind, .sl 64 (List.map R64 x.Parts), .int .i64 x.First, .int .i64 x.Every, .int .i64 x.Times, .int .i64 x.Step, .sl 9 (List.map R9 x.Names)]
def R3 (x : Int) : List AV := [.int .i64 x]
theorem D3 (x : Int) : (R3 x).length = Try.prog.cellsOf 3 ∧ (R3 x).all datB = true := ⟨tZ_3.symm, rfl⟩
instance : RowD Try.prog 3 R3 := ⟨D3⟩
def R59 (x : api_Place) : List AV := [.int .i64 x.Frame, .int .i64 x.Word, .int .i64 x.Low, .int .i64 x.Bits]
theorem D59 (x : api_Place) : (R59 x).length = Try.prog.cellsOf 59 ∧ (R59 x).all datB = true := ⟨tZ_59.symm, rfl⟩
instance : RowD Try.prog 59 R59 := ⟨D59⟩
def R34 (x : api_Cell) : List AV := [.int .i64 x.Param, .int .i64 x.Index, .int .i64 x.Frame, .sl 59 (List.map R59 x.Places)]
theorem D34 (x : api_Cell) : (R34 x).length = Try.prog.cellsOf 34 ∧ (R34 x).all datB = true := ⟨tZ_34.symm, rfl⟩
instance : RowD Try.prog 34 R34 := ⟨D34⟩
def ZS (x : layout_bit) : AV := .agg [.int .i64 x.frame, .int .i64 x.word, .int .i64 x.bit]
theorem Zk4 : KeyOK Try.prog 63 ZS kq_layout_bit := Zi5 Zmw (fun _ => rfl)
def FV3 (x : Int) : AV := .int .i64 x
def R63 (x : layout_bit) : List AV := [.int .i64 x.frame, .int .i64 x.word, .int .i64 x.bit]
theorem D63 (x : layout_bit) : (R63 x).length = Try.prog.cellsOf 63 ∧ (R63 x).all datB = true := ⟨tZ_63.symm, rfl⟩
instance : RowD Try.prog 63 R63 := ⟨D63⟩
theorem D64 (x : api_Part) : (R64 x).length = Try.prog.cellsOf 64 ∧ (R64 x).all datB = true := ⟨tZ_64.symm, rfl⟩
instance : RowD Try.prog 64 R64 := ⟨D64⟩
theorem D9 (x : Str) : (R9 x).length = Try.prog.cellsOf 9 ∧ (R9 x).all datB = true := ⟨tZ_9.symm, rfl⟩
instance : RowD Try.prog 9 R9 := ⟨D9⟩
theorem D44 (x : api_Param) : (R44 x).length = Try.prog.cellsOf 44 ∧ (R44 x).all datB = true := ⟨tZ_44.symm, rfl⟩
instance : RowD Try.prog 44 R44 := ⟨D44⟩
def C3 (x : Int) : AV := .int .i64 x
def Qn (x : Vector Int 3) : AV := .agg (List.map C3 x.toList)
theorem Zkp : KeyOK Try.prog 108 Qn kqV := ZlA (fun _ => rfl) ZlR
def FV4 (x : Bool) : AV := .bool x
def C65 (x : List Int) : AV := .sl 3 (List.map R3 x)
def FK3 (x : Int) : AV := .int .i64 x
theorem Zgn : KeyOK Try.prog 3 FK3 kqI := Zls (fun _ => rfl) tI3
def Zck (x : Fv (Int → Option Int)) : Prop := x.c.all datB = true ∧ ∀ z0 r, x.fn z0 = some r → CSpec Try.prog gl0 x.f ([.int .i64 z0] ++ x.c) (.int .i64 r)
def Zci (x : Fv (Int → Option (Int × Bool))) : Prop := x.c.all datB = true ∧ ∀ z0 r, x.fn z0 = some r → CSpec Try.prog gl0 x.f ([.int .i64 z0] ++ x.c) (.tuple [.int .i64 r.1, .bool r.2])
def R73 (x : api_Reading) : List AV := [.int .i64 x.Param, .int .i64 x.Index, .int .i64 x.Value, .bool x.Good]
theorem D73 (x : api_Reading) : (R73 x).length = Try.prog.cellsOf 73 ∧ (R73 x).all datB = true := ⟨tZ_73.symm, rfl⟩
instance : RowD Try.prog 73 R73 := ⟨D73⟩
theorem Qe {n : Int} {low : Int} {high : Int} {r : Bool} (h : ZW n low high = some r) :
 CSpec Try.prog gl0 37 [.int .i64 n, .int .i64 low, .int .i64 high] (.bool r) := by
 unfold ZW at h
 replace h := Qf h
 refine So Try.func37 Y fun w0 A=>Tr<|Ra Y<|Za<|Tr<|Rm Y<|Rm Y<|R2 ZcB Y<|Rm Y<|Rq Y (.guarded ((decide (low ≤ n)) == true) Y Y Y Y fun h => Zz<|ov Y)<|Rq Y (.guarded ((decide (low ≤ n)) == true) Y Y Y Y fun h => Zz<|ov Y)<|Rq Y (.guarded ((decide (low ≤ n)) == true) Y Y Y Y fun h => ZdJ (ow Y h)<|ow Y h)<|Rq Y (Xx (ov Y) fun hp=>ow Y<|gT hp)<|Ra Y<|Za<|?_
 obtain rfl := rt h
 exact Zk (Zp Y (.one<|rb Y))
theorem ZkH {s : Str} {f : Int → Option Bool} {r : Bool} {f_f : FuncId} {f_c : List AV} (f_d : f_c.all datB = true) (f_h : ∀ (z0 : Int) z, f z0 = some z → CSpec Try.prog gl0 f_f ([.int .i32 z0] ++ f_c) (.bool z)) (h : Zaj s f = some r) :
    CSpec Try.prog gl0 82 [.str s, .fn f_f f_c] (.bool r) :=
  Zgq (by kernel_rfl) (fun g lb eg p s w hp => Any.strings_ContainsFunc_grows Try.laysGw17 g lb eg p s w hp) f_d f_h h
theorem Ze5 {c_ : Int} {r : Bool} (h : ZaJ c_ = some r) :
 CSpec Try.prog gl0 83 [.int .i32 c_] (.bool r) := by
 unfold ZaJ at h
 replace h := Qf h
 refine So Try.func83 Y fun w0 A=>Tr<|Ra Y<|Za<|Tr<|Rm Y<|R2 ZcB Y<|Rm Y<|Rq Y (.guarded ((decide (97 ≤ c_)) == true) Y Y Y Y fun h => Zz<|ov Y)<|Rq Y (.guarded ((decide (97 ≤ c_)) == true) Y Y Y Y fun h => ZdJ (ow Y h)<|ov Y)<|Rq Y (Xx (ov Y) fun hp=>ow Y<|gT hp)<|Rm Y<|Rq Y (.guarded (((decide (97 ≤ c_)) && (decide (c_ ≤ 122))) == false) Y Y Y Y fun h => Zz<|ov Y)<|Rq Y (.guarded (((decide (97 ≤ c_)) && (decide (c_ ≤ 122))) == false) Y Y Y Y fun h => ZcB (ow Y h)<|ov Y)<|Rq Y (.guarded (((decide (97 ≤ c_)) && (decide (c_ ≤ 122))) == false) Y Y Y Y fun h => Zz<|ow Y h)<|Rq Y (.guarded2 ((((decide (97 ≤ c_)) && (decide (c_ ≤ 122))) == false) && ((decide (48 ≤ c_)) == true)) Y Y Y Y fun h => Zz<|ov Y)<|Rq Y (.guarded2 ((((decide (97 ≤ c_)) && (decide (c_ ≤ 122))) == false) && ((decide (48 ≤ c_)) == true)) Y Y Y Y fun h => ZdJ (ow Y h)<|ov Y)<|Rq Y (.guarded (((decide (97 ≤ c_)) && (decide (c_ ≤ 122))) == false) Y Y Y Y fun h => Xx (ow Y h) fun hp=>ow Y<|gA h<|gT hp)<|Rq Y (Jk (ov Y) fun hp=>ow Y<|gF hp)<|Rm Y<|Rq Y (.guarded ((((decide (97 ≤ c_)) && (decide (c_ ≤ 122))) || ((decide (48 ≤ c_)) && (decide (c_ ≤ 57)))) == false) Y Y Y Y fun h => Zz<|ov Y)<|Rq Y (.guarded ((((decide (97 ≤ c_)) && (decide (c_ ≤ 122))) || ((decide (48 ≤ c_)) && (decide (c_ ≤ 57)))) == false) Y Y Y Y fun h => QZ (ow Y h)<|ov Y)<|Rq Y (Jk (ov Y) fun hp=>ow Y<|gF hp)<|R1 Xy Y<|Ra Y<|Za<|?_
 obtain rfl := rt h
 exact Zk (Zp Y (.one<|rb Y))
theorem Zc3 {s : Str} {r : Bool} (h : X5 s = some r) :
 CSpec Try.prog gl0 53 [.str s] (.bool r) := by
 unfold X5 at h
 replace h := Qf h
 refine So Try.func53 Y fun w0 A=>Tr<|Ra Y<|Za<|Zl<|K1 0 Y<|Tr<|Rm Y<|Rq Y (ZdO (ov Y) Zgj Y)<|R2 ZM Y<|Rm Y<|Rq Y (.guarded ((decide ((s.length : Int) < 1)) == false) Y Y Y Y fun h => Zz<|ov Y)<|Rq Y (.guarded ((decide ((s.length : Int) < 1)) == false) Y Y Y Y fun h => ZdO (ow Y h) Zgj Y)<|Rq Y (.guarded ((decide ((s.length : Int) < 1)) == false) Y Y Y Y fun h => JC (ow Y h)<|ov Y)<|Rq Y (Jk (ov Y) fun hp=>ow Y<|gF hp)<|Rm Y<|Rq Y (.guarded (((decide ((s.length : Int) < 1)) || (decide (30 < (s.length : Int)))) == false) Y Y Y Y fun h => Zz<|ov Y)<|bE h fun b h_b h=>Rq Y (.guarded (((decide ((s.length : Int) < 1)) || (decide (30 < (s.length : Int)))) == false) Y Y Y Y fun h => Zg0 (ow Y h) (ov Y) Zgj<|gdT h_b h)<|Rq Y (.guarded (((decide ((s.length : Int) < 1)) || (decide (30 < (s.length : Int)))) == false) Y Y Y Y fun h => ZM (ow Y h)<|ov Y)<|Rq Y (Jk (ov Y) fun hp=>ow Y<|gF hp)<|Rm Y<|Rq Y (.guarded ((((decide ((s.length : Int) < 1)) || (decide (30 < (s.length : Int)))) || (decide (b < 97))) == false) Y Y Y Y fun h => Zz<|ov Y)<|bE h fun b2 h_b2 h=>Rq Y (.guarded ((((decide ((s.length : Int) < 1)) || (decide (30 < (s.length : Int)))) || (decide (b < 97))) == false) Y Y Y Y fun h => Zg0 (ow Y h) (ov Y) Zgj<|gdT h_b2 h)<|Rq Y (.guarded ((((decide ((s.length : Int) < 1)) || (decide (30 < (s.length : Int)))) || (decide (b < 97))) == false) Y Y Y Y fun h => JC (ow Y h)<|ov Y)<|Rq Y (Jk (ov Y) fun hp=>ow Y<|gF hp)<|Za<|K2 0 20 Y<|If h Y (fun h=>?_) fun h=>?_
 ·
  refine K0<|Tr<|Ra Y<|Za<|?_
  obtain rfl := rt h
  exact Zk (Zp Y (.one<|rb Y))
 ·
  refine Ze<|K1 0 Y<|Tr<|Rm Y<|bE h fun y h_y h=>Rq Y (Zr (ZkH Y (fun z0 _ hz=>Ze5 hz) h_y)<|.cons (ov Y) (.b Y)<|.cons (ov Y) .fn .nil)<|R1 Xy Y<|Ra Y<|Za<|?_
  obtain rfl := rt h
  exact Zk (Zp Y (.one<|rb Y))
theorem Zag {p : api_Param} {r : Int} (h : QD p = some r) :
 CSpec Try.prog gl0 48 [.agg [.str p.Name, .int .i64 p.Kind, .sl 64 (List.map R64 p.Parts), .int .i64 p.First, .int .i64 p.Every, .int .i64 p.Times, .int .i64 p.Step, .sl 9 (List.map R9 p.Names)]] (.int .i64 r) := by
 unfold QD at h
 replace h := Qf h
 refine So Try.func48 Y fun w0 A=>Tr<|Rq Y (ZY (cva<|ov Y) Y tZ_44 Y)<|Ra Y<|Za<|K1 1 Y<|Tr<|Ra Y<|Za<|I1 (fun n=>⟨[(3, .int .i64 n)], []⟩) h (fun h=>?_) fun n h=>?_
 ·
  refine Tr<|Rq Y (Zd (ov Y) Q4)<|Rq Y (Zc (ov Y) Zbv Y)<|Rl tZ_64 Xs Y<|Rm Y<|Za<|Zh<|?_
  obtain ⟨r1, hl1, ho1⟩ := QA h
  refine L2 (fun n2 i=>⟨[(3, .int .i64 n2), (7, .sl 64 (List.map R64 p.Parts)), (8, .int .i64 (p.Parts.length : Int)), (9, .int .i64 i)], []⟩) hl1 (ES []) fun n1 n2 i h=>?_
  unfold QK at h
  refine Tr<|R2 ZM Y<|Za<|Zl<|If h Y (fun h=>?_) fun h=>?_
  ·
   exact Ze<|Zl<|Zh<|K4 3 7 8 9 Y<|Tr<|bE h fun x h_x h=>Rq Y (ZE (ov Y) (ov Y) Xs h_x)<|Rq Y (Zj (ov Y) X8 Y Y)<|Rx Y (Zs (row := [_, _, _, _]) 0 Y ZeR Y tZ_64)<|Rx Y (Zg (ov Y) (ov Y) (Zf X8 Y) Y Y Y (Nat.le_of_ble_eq_true Y) (Zb Y) Y)<|Za<|K5 3 5 7 8 9 Y<|Zy<|Rm Y<|Rq Y (Zi (ov Y) Y Y Zdm)<|Rq Y (Zm (ov Y) Y Y Y tS3 Y)<|R2 Z5 Y<|Ra Y<|Za<|K4 3 7 8 9 Y<|Zy<|R2 Z5 Y<|Rm Y<|Za<|⟨_, h, ES []⟩
  ·
   refine ZC<|?_
   replace h := lx h ▸ ho1
   exact ⟨_, h, ES []⟩
 ·
  refine Tr<|Rm Y<|Ra Y<|Za<|?_
  obtain rfl := rt h
  exact Zk (Zp Y (.one<|rb Y))
theorem Zda {s : List Int} {v : Int} {r : Int} (h : QJ s v = some r) :
 CSpec Try.prog gl0 88 [.sl 3 (List.map R3 s), .int .i64 v] (.int .i64 r) := by
 unfold QJ at h
 replace h := Qf h
 refine So Try.func88 Y fun w0 A=>Tr<|Ra Y<|Za<|J0 (fun j => (.inr j)) ⟨[], []⟩ h (fun h=>?_) fun h=>?_
 ·
  refine K2 0 1 Y<|Tr<|Rm Y<|Rl tZ_3 ZaS Y<|Rm Y<|Za<|Zh<|?_
  obtain ⟨r1, hl1, ho1⟩ := QA h
  refine L1 (fun i=>⟨[(0, .sl 3 (List.map R3 s)), (1, .int .i64 v), (7, .int .i64 (s.length : Int)), (8, .int .i64 i)], []⟩) hl1 (ES []) fun n1 i h=>?_
  unfold ZP at h
  refine Tr<|R2 ZM Y<|Za<|Zl<|If h Y (fun h=>?_) fun h=>?_
  ·
   refine Ze<|Zl<|Zh<|K4 0 1 7 8 Y<|Tr<|Rm Y<|Ra Y<|Za<|K5 0 1 5 7 8 Y<|Tr<|Rm Y<|Rm Y<|Rm Y<|bE h fun x h_x h=>Rq Y (ZE (ov Y) (ov Y) ZaS h_x)<|Rq Y (Zc (ov Y) tS3 Y)<|R2 QZ Y<|Za<|K6 0 1 5 7 8 16 Y<|If h Y (fun h=>?_) fun h=>?_
   ·
    refine K1 5 Y<|Tr<|Rm Y<|Ra Y<|Za<|?_
    replace h := lx h ▸ ho1
    obtain rfl := rt h
    exact Zk (Zp Y (.one<|rb Y))
   ·
    exact Ze<|K4 0 1 7 8 Y<|Zy<|R2 Z5 Y<|Rm Y<|Za<|⟨_, h, ES []⟩
  ·
   refine ZC<|?_
   replace h := lx h ▸ ho1
   exact ⟨(), h, ES []⟩
 ·
  replace h := elr h
  replace h := t0i h
  refine Tr<|Ra Y<|Za<|?_
  obtain rfl := rt h
  exact Zk (Zp Y (.one<|rb Y))
theorem ZcL {s : List Int} {v : Int} {r : Bool} (h : Z3 s v = some r) :
 CSpec Try.prog gl0 84 [.sl 3 (List.map R3 s), .int .i64 v] (.bool r) := by
 unfold Z3 at h
 replace h := Qf h
 refine So Try.func84 Y fun w0 A=>Tr<|Ra Y<|Za<|Tr<|Rm Y<|Rm Y<|bE h fun y h_y h=>Rq Y (Zr (Zda h_y)<|.cons (ov Y) (.b Y)<|.cons (ov Y) (.b Y) .nil)<|R2 ZcB Y<|Ra Y<|Za<|?_
 obtain rfl := rt h
 exact Zk (Zp Y (.one<|rb Y))
theorem ZdT {p : api_Param} {r : Int} (h : QN p = some r) :
 CSpec Try.prog gl0 54 [.agg [.str p.Name, .int .i64 p.Kind, .sl 64 (List.map R64 p.Parts), .int .i64 p.First, .int .i64 p.Every, .int .i64 p.Times, .int .i64 p.Step, .sl 9 (List.map R9 p.Names)]] (.int .i64 r) := by
 unfold QN at h
 replace h := Qf h
 refine So Try.func54 Y fun w0 A=>Tr<|Rq Y (ZY (cva<|ov Y) Y tZ_44 Y)<|Ra Y<|Za<|Zl<|Zh<|K1 1 Y<|Tr<|Rq Y (Zd (ov Y) Q4)<|Rq Y (Zc (ov Y) Zbv Y)<|Rl tZ_64 Xs Y<|R2 QZ Y<|Ra Y<|Za<|K2 1 8 Y<|If h Y (fun h=>?_) fun h=>?_
 ·
  refine K0<|Tr<|Ra Y<|Za<|?_
  obtain rfl := rt h
  exact Zk (Zp Y (.one<|rb Y))
 ·
  refine K1 1 Y<|Tr<|Rq Y (Zd (ov Y) Q4)<|Rq Y (Zc (ov Y) Zbv Y)<|Rl tZ_64 Xs Y<|R2 JC Y<|Ra Y<|Za<|K2 1 13 Y<|If h Y (fun h=>?_) fun h=>?_
  ·
   refine K0<|Tr<|Ra Y<|Za<|?_
   obtain rfl := rt h
   exact Zk (Zp Y (.one<|rb Y))
  ·
   refine Ze<|J0 (fun j => (.inr j)) ⟨[(1, .rp [.str p.Name, .int .i64 p.Kind, .sl 64 (List.map R64 p.Parts), .int .i64 p.First, .int .i64 p.Every, .int .i64 p.Times, .int .i64 p.Step, .sl 9 (List.map R9 p.Names)] 0)], []⟩ h (fun h=>?_) fun h=>?_
   ·
    refine K1 1 Y<|Tr<|Rq Y (Zd (ov Y) Q4)<|Rq Y (Zc (ov Y) Zbv Y)<|Rl tZ_64 Xs Y<|Rm Y<|Za<|Zh<|?_
    obtain ⟨r1, hl1, ho1⟩ := QA h
    refine L1 (fun i=>⟨[(1, .rp [.str p.Name, .int .i64 p.Kind, .sl 64 (List.map R64 p.Parts), .int .i64 p.First, .int .i64 p.Every, .int .i64 p.Times, .int .i64 p.Step, .sl 9 (List.map R9 p.Names)] 0), (19, .sl 64 (List.map R64 p.Parts)), (20, .int .i64 (p.Parts.length : Int)), (21, .int .i64 i)], []⟩) hl1 (ES []) fun n1 i h=>?_
    unfold ZU at h
    refine Tr<|R2 ZM Y<|Za<|Zl<|If h Y (fun h=>?_) fun h=>?_
    ·
     refine Ze<|Zl<|Zh<|K4 1 19 20 21 Y<|Tr<|bE h fun x h_x h=>Rq Y (ZE (ov Y) (ov Y) Xs h_x)<|Rq Y (Zj (ov Y) X8 Y Y)<|Rx Y (Zs (row := [_, _, _, _]) 0 Y ZeR Y tZ_64)<|Rx Y (Zg (ov Y) (ov Y) (Zf X8 Y) Y Y Y (Nat.le_of_ble_eq_true Y) (Zb Y) Y)<|Za<|K5 1 4 19 20 21 Y<|Tr<|Rq Y (Zi (ov Y) Y Y Ze2)<|Rq Y (Zm (ov Y) Y Y Y tS3 Y)<|bE h fun y h_y h=>Rq Y (Zr (Qe h_y)<|.cons (ov Y) (.b Y)<|.cons (ov Y) (.b Y)<|.cons (ov Y) (.b Y) .nil)<|R1 Xy Y<|Rm Y<|Rq Y (.guarded ((!y) == false) Y Y Y Y fun h => Zi (ov Y) Y Y Zb9)<|Rq Y (.guarded ((!y) == false) Y Y Y Y fun h => Zm (ow Y h) Y Y Y tS3 Y)<|bE h fun y2 h_y2 h=>Rq Y (.guarded ((!y) == false) Y Y Y Y fun h => Zr (Qe<|gdT h_y2 h)<|.cons (ow Y h) (.b Y)<|.cons (ov Y) (.b Y)<|.cons (ov Y) (.b Y) .nil)<|Rq Y (.guarded ((!y) == false) Y Y Y Y fun h => Xy<|ow Y h)<|Rq Y (Jk (ov Y) fun hp=>ow Y<|gF hp)<|Rm Y<|Rq Y (.guarded (((!y) || (!y2)) == false) Y Y Y Y fun h => Zi (ov Y) Y Y Zcd)<|Rq Y (.guarded (((!y) || (!y2)) == false) Y Y Y Y fun h => Zm (ow Y h) Y Y Y tS3 Y)<|bE h fun y3 h_y3 h=>Rq Y (.guarded (((!y) || (!y2)) == false) Y Y Y Y fun h => Zr (Qe<|gdT h_y3 h)<|.cons (ow Y h) (.b Y)<|.cons (ov Y) (.b Y)<|.cons (ov Y) (.b Y) .nil)<|Rq Y (.guarded (((!y) || (!y2)) == false) Y Y Y Y fun h => Xy<|ow Y h)<|Rq Y (Jk (ov Y) fun hp=>ow Y<|gF hp)<|Rm Y<|Rq Y (.guarded ((((!y) || (!y2)) || (!y3)) == false) Y Y Y Y fun h => Zi (ov Y) Y Y Zdm)<|Rq Y (.guarded ((((!y) || (!y2)) || (!y3)) == false) Y Y Y Y fun h => Zm (ow Y h) Y Y Y tS3 Y)<|Rq Y (.guarded ((((!y) || (!y2)) || (!y3)) == false) Y Y Y Y fun h => Zi (ov Y) Y Y Zcd)<|Rq Y (.guarded ((((!y) || (!y2)) || (!y3)) == false) Y Y Y Y fun h => Zm (ow Y h) Y Y Y tS3 Y)<|Rq Y (.guarded ((((!y) || (!y2)) || (!y3)) == false) Y Y Y Y fun h => Zhv (ov Y) (ow Y h) Y)<|bE h fun y4 h_y4 h=>Rq Y (.guarded ((((!y) || (!y2)) || (!y3)) == false) Y Y Y Y fun h => Zr (Qe<|gdT h_y4 h)<|.cons (ow Y h) (.b Y)<|.cons (ov Y) (.b Y)<|.cons (ow Y h) (.b Y) .nil)<|Rq Y (.guarded ((((!y) || (!y2)) || (!y3)) == false) Y Y Y Y fun h => Xy<|ow Y h)<|Rq Y (Jk (ov Y) fun hp=>ow Y<|gF hp)<|Za<|K5 1 19 20 21 49 Y<|If h Y (fun h=>?_) fun h=>?_
     ·
      refine K0<|Tr<|Ra Y<|Za<|?_
      replace h := lx h ▸ ho1
      obtain rfl := rt h
      exact Zk (Zp Y (.one<|rb Y))
     ·
      exact Ze<|K4 1 19 20 21 Y<|Zy<|R2 Z5 Y<|Rm Y<|Za<|⟨_, h, ES []⟩
    ·
     refine ZC<|?_
     replace h := lx h ▸ ho1
     exact ⟨(), h, ES []⟩
   ·
    replace h := elr h
    replace h := t0i h
    refine Zl<|Tr<|Rq Y (Zj (ov Y) Zw Y Y)<|bE h fun y5 h_y5 h=>Rq Y (Zr (Zag h_y5)<|.cons (ov Y) (.aggB Y) .nil)<|R2 JC Y<|Za<|K2 1 53 Y<|If h Y (fun h=>?_) fun h=>?_
    ·
     refine K0<|Tr<|Ra Y<|Za<|?_
     obtain rfl := rt h
     exact Zk (Zp Y (.one<|rb Y))
    ·
     refine Ze<|K1 1 Y<|Tr<|R_q (.sl 3<|List.map R3 ([1, 2, 4, 8, 16] : List Int)) Y (X7 ZaS (.cons (cvs (ov Y)<|Zq Y) Y (.cons (.b Y) .nil)<|.cons (cvs (ov Y)<|Zq Y) Y (.cons (.b Y) .nil)<|.cons (cvs (ov Y)<|Zq Y) Y (.cons (.b Y) .nil)<|.cons (cvs (ov Y)<|Zq Y) Y (.cons (.b Y) .nil)<|.cons (cvs (ov Y)<|Zq Y) Y (.cons (.b Y) .nil) .nil) Y Y)<|Rq Y (Zd (ov Y) ZdS)<|Rq Y (Zc (ov Y) tS3 Y)<|bE h fun y6 h_y6 h=>Rq Y (Zr (ZcL h_y6)<|.cons (ov Y) (.b Y)<|.cons (ov Y) (.b Y) .nil)<|Ra Y<|Za<|Zl<|K2 1 5 Y<|Tr<|Rm Y<|R1 Xy Y<|Rm Y<|Rq Y (.guarded ((!y6) == false) Y Y Y Y fun h => Zd (ov Y) ZfY)<|Rq Y (.guarded ((!y6) == false) Y Y Y Y fun h => Zc (ow Y h) tS3 Y)<|Rq Y (.guarded ((!y6) == false) Y Y Y Y fun h => Zd (ov Y) ZdS)<|Rq Y (.guarded ((!y6) == false) Y Y Y Y fun h => Zc (ow Y h) tS3 Y)<|Rq Y (.guarded ((!y6) == false) Y Y Y Y fun h => Zhv (ow Y h) (ov Y) Y)<|bE h fun y7 h_y7 h=>Rq Y (.guarded ((!y6) == false) Y Y Y Y fun h => Zr (Qe<|gdT h_y7 h)<|.cons (ow Y h) (.b Y)<|.cons (ov Y) (.b Y)<|.cons (ow Y h) (.b Y) .nil)<|Rq Y (.guarded ((!y6) == false) Y Y Y Y fun h => Xy<|ow Y h)<|Rq Y (Jk (ov Y) fun hp=>ow Y<|gF hp)<|Rm Y<|Rq Y (.guarded (((!y6) || (!y7)) == false) Y Y Y Y fun h => Zd (ov Y) ZaQ)<|Rq Y (.guarded (((!y6) || (!y7)) == false) Y Y Y Y fun h => Zc (ow Y h) tS3 Y)<|bE h fun y8 h_y8 h=>Rq Y (.guarded (((!y6) || (!y7)) == false) Y Y Y Y fun h => Zr (Qe<|gdT h_y8 h)<|.cons (ow Y h) (.b Y)<|.cons (ov Y) (.b Y)<|.cons (ov Y) (.b Y) .nil)<|Rq Y (.guarded (((!y6) || (!y7)) == false) Y Y Y Y fun h => Xy<|ow Y h)<|Rq Y (Jk (ov Y) fun hp=>ow Y<|gF hp)<|Rm Y<|Rq Y (.guarded ((((!y6) || (!y7)) || (!y8)) == false) Y Y Y Y fun h => Zd (ov Y) Zbp)<|Rq Y (.guarded ((((!y6) || (!y7)) || (!y8)) == false) Y Y Y Y fun h => Zc (ow Y h) tS3 Y)<|Rq Y (.guarded ((((!y6) || (!y7)) || (!y8)) == false) Y Y Y Y fun h => ZM (ow Y h)<|ov Y)<|Rq Y (Jk (ov Y) fun hp=>ow Y<|gF hp)<|Rm Y<|Rq Y (.guarded (((((!y6) || (!y7)) || (!y8)) || (decide (p.Step < 0))) == false) Y Y Y Y fun h => Zd (ov Y) Zbp)<|Rq Y (.guarded (((((!y6) || (!y7)) || (!y8)) || (decide (p.Step < 0))) == false) Y Y Y Y fun h => Zc (ow Y h) tS3 Y)<|Rq Y (.guarded (((((!y6) || (!y7)) || (!y8)) || (decide (p.Step < 0))) == false) Y Y Y Y fun h => QZ (ow Y h)<|ov Y)<|Rq Y (.guarded (((((!y6) || (!y7)) || (!y8)) || (decide (p.Step < 0))) == false) Y Y Y Y fun h => Zd (ov Y) ZaQ)<|Rq Y (.guarded (((((!y6) || (!y7)) || (!y8)) || (decide (p.Step < 0))) == false) Y Y Y Y fun h => Zc (ow Y h) tS3 Y)<|Rq Y (.guarded (((((!y6) || (!y7)) || (!y8)) || (decide (p.Step < 0))) == false) Y Y Y Y fun h => QZ (ow Y h)<|ov Y)<|Rq Y (.guarded (((((!y6) || (!y7)) || (!y8)) || (decide (p.Step < 0))) == false) Y Y Y Y fun h => ZiF .neq (by simp) (ow Y h) (ow Y h) tB4)<|Rq Y (Jk (ov Y) fun hp=>ow Y<|gF hp)<|Za<|K2 1 88 Y<|If h Y (fun h=>?_) fun h=>?_
     ·
      refine K0<|Tr<|Ra Y<|Za<|?_
      obtain rfl := rt h
      exact Zk (Zp Y (.one<|rb Y))
     ·
      refine Ze<|J0 (fun j => (.inr j)) ⟨[], []⟩ h (fun h=>?_) fun h=>?_
      ·
       refine K1 1 Y<|Tr<|Rq Y (Zd (ov Y) Q4)<|Rq Y (Zc (ov Y) Zbv Y)<|Rl tZ_64 Xs Y<|Rm Y<|Za<|Zh<|?_
       obtain ⟨r2, hl2, ho2⟩ := QA h
       refine L1 (fun i2=>⟨[(1, .rp [.str p.Name, .int .i64 p.Kind, .sl 64 (List.map R64 p.Parts), .int .i64 p.First, .int .i64 p.Every, .int .i64 p.Times, .int .i64 p.Step, .sl 9 (List.map R9 p.Names)] 0), (90, .sl 64 (List.map R64 p.Parts)), (91, .int .i64 (p.Parts.length : Int)), (92, .int .i64 i2)], []⟩) hl2 (ES []) fun n2 i2 h=>?_
       unfold Qm at h
       refine Tr<|R2 ZM Y<|Za<|Zl<|If h Y (fun h=>?_) fun h=>?_
       ·
        refine Ze<|Zl<|Zh<|K4 1 90 91 92 Y<|Tr<|bE h fun x2 h_x2 h=>Rq Y (ZE (ov Y) (ov Y) Xs h_x2)<|Rq Y (Zj (ov Y) X8 Y Y)<|Rx Y (Zs (row := [_, _, _, _]) 0 Y ZeR Y tZ_64)<|Rx Y (Zg (ov Y) (ov Y) (Zf X8 Y) Y Y Y (Nat.le_of_ble_eq_true Y) (Zb Y) Y)<|Za<|K5 1 7 90 91 92 Y<|Tr<|Rq Y (Zd (ov Y) Zbp)<|Rq Y (Zc (ov Y) tS3 Y)<|R2 JC Y<|Rm Y<|Rq Y (.guarded ((decide (60 < p.Step)) == false) Y Y Y Y fun h => Zi (ov Y) Y Y Zb9)<|Rq Y (.guarded ((decide (60 < p.Step)) == false) Y Y Y Y fun h => Zm (ow Y h) Y Y Y tS3 Y)<|Rq Y (.guarded ((decide (60 < p.Step)) == false) Y Y Y Y fun h => Zd (ov Y) ZaQ)<|Rq Y (.guarded ((decide (60 < p.Step)) == false) Y Y Y Y fun h => Zc (ow Y h) tS3 Y)<|Rq Y (.guarded ((decide (60 < p.Step)) == false) Y Y Y Y fun h => Zhv (ow Y h) (ov Y) Y)<|Rq Y (.guarded ((decide (60 < p.Step)) == false) Y Y Y Y fun h => Zd (ov Y) Zbp)<|Rq Y (.guarded ((decide (60 < p.Step)) == false) Y Y Y Y fun h => Zc (ow Y h) tS3 Y)<|Rq Y (.guarded ((decide (60 < p.Step)) == false) Y Y Y Y fun h => Zle (ow Y h) (ow Y h) Y)<|Rq Y (.guarded ((decide (60 < p.Step)) == false) Y Y Y Y fun h => Zjp (ow Y h) (ow Y h) Y)<|Rq Y (.guarded ((decide (60 < p.Step)) == false) Y Y Y Y fun h => JC (ow Y h)<|ov Y)<|Rq Y (Jk (ov Y) fun hp=>ow Y<|gF hp)<|Za<|K5 1 90 91 92 110 Y<|If h Y (fun h=>?_) fun h=>?_
        ·
         refine K0<|Tr<|Ra Y<|Za<|?_
         replace h := lx h ▸ ho2
         obtain rfl := rt h
         exact Zk (Zp Y (.one<|rb Y))
        ·
         exact Ze<|K4 1 90 91 92 Y<|Zy<|R2 Z5 Y<|Rm Y<|Za<|⟨_, h, ES []⟩
       ·
        refine ZC<|?_
        replace h := lx h ▸ ho2
        exact ⟨(), h, ES []⟩
      ·
       replace h := elr h
       replace h := t0i h
       refine Tr<|Ra Y<|Za<|?_
       obtain rfl := rt h
       exact Zk (Zp Y (.one<|rb Y))
theorem Zb1 {s : List Str} {v : Str} {r : Int} (h : Z4 s v = some r) :
 CSpec Try.prog gl0 89 [.sl 9 (List.map R9 s), .str v] (.int .i64 r) := by
 unfold Z4 at h
 replace h := Qf h
 refine So Try.func89 Y fun w0 A=>Tr<|Ra Y<|Za<|J0 (fun j => (.inr j)) ⟨[], []⟩ h (fun h=>?_) fun h=>?_
 ·
  refine K2 0 1 Y<|Tr<|Rm Y<|Rl tZ_9 ZbX Y<|Rm Y<|Za<|Zh<|?_
  obtain ⟨r1, hl1, ho1⟩ := QA h
  refine L1 (fun i=>⟨[(0, .sl 9 (List.map R9 s)), (1, .str v), (7, .int .i64 (s.length : Int)), (8, .int .i64 i)], []⟩) hl1 (ES []) fun n1 i h=>?_
  unfold ZG at h
  refine Tr<|R2 ZM Y<|Za<|Zl<|If h Y (fun h=>?_) fun h=>?_
  ·
   refine Ze<|Zl<|Zh<|K4 0 1 7 8 Y<|Tr<|Rm Y<|Ra Y<|Za<|K5 0 1 5 7 8 Y<|Tr<|Rm Y<|Rm Y<|Rm Y<|bE h fun x h_x h=>Rq Y (ZE (ov Y) (ov Y) ZbX h_x)<|Rq Y (Zc (ov Y) tS9 Y)<|R2 Zcz Y<|Za<|K6 0 1 5 7 8 16 Y<|If h Y (fun h=>?_) fun h=>?_
   ·
    refine K1 5 Y<|Tr<|Rm Y<|Ra Y<|Za<|?_
    replace h := lx h ▸ ho1
    obtain rfl := rt h
    exact Zk (Zp Y (.one<|rb Y))
   ·
    exact Ze<|K4 0 1 7 8 Y<|Zy<|R2 Z5 Y<|Rm Y<|Za<|⟨_, h, ES []⟩
  ·
   refine ZC<|?_
   replace h := lx h ▸ ho1
   exact ⟨(), h, ES []⟩
 ·
  replace h := elr h
  replace h := t0i h
  refine Tr<|Ra Y<|Za<|?_
  obtain rfl := rt h
  exact Zk (Zp Y (.one<|rb Y))
theorem Zbs {s : List Str} {v : Str} {r : Bool} (h : ZK s v = some r) :
 CSpec Try.prog gl0 85 [.sl 9 (List.map R9 s), .str v] (.bool r) := by
 unfold ZK at h
 replace h := Qf h
 refine So Try.func85 Y fun w0 A=>Tr<|Ra Y<|Za<|Tr<|Rm Y<|Rm Y<|bE h fun y h_y h=>Rq Y (Zr (Zb1 h_y)<|.cons (ov Y) (.b Y)<|.cons (ov Y) (.b Y) .nil)<|R2 ZcB Y<|Ra Y<|Za<|?_
 obtain rfl := rt h
 exact Zk (Zp Y (.one<|rb Y))
theorem Zd6 {p : api_Param} {r : Int} (h : QO p = some r) :
 CSpec Try.prog gl0 55 [.agg [.str p.Name, .int .i64 p.Kind, .sl 64 (List.map R64 p.Parts), .int .i64 p.First, .int .i64 p.Every, .int .i64 p.Times, .int .i64 p.Step, .sl 9 (List.map R9 p.Names)]] (.int .i64 r) := by
 unfold QO at h
 replace h := Qf h
 refine So Try.func55 Y fun w0 A=>Tr<|Rq Y (ZY (cva<|ov Y) Y tZ_44 Y)<|Ra Y<|Za<|K1 1 Y<|Tr<|Rq Y (Zj (ov Y) Zw Y Y)<|bE h fun y h_y h=>Rq Y (Zr (Zag h_y)<|.cons (ov Y) (.aggB Y) .nil)<|Ra Y<|Za<|Zl<|K2 1 3 Y<|Tr<|Rq Y (Zd (ov Y) ZaR)<|Rq Y (Zc (ov Y) tS3 Y)<|R2 QZ Y<|Rm Y<|Rq Y (.guarded ((decide (p.Kind = 4)) == true) Y Y Y Y fun h => Zz<|ov Y)<|bE h fun q h_q h=>Rq Y (.guarded ((decide (p.Kind = 4)) == true) Y Y Y Y fun h => Zh0 (ow Y h) (ov Y)<|gdT h_q h)<|Rq Y (.guarded ((decide (p.Kind = 4)) == true) Y Y Y Y fun h => Qp (ow Y h)<|ov Y)<|Rq Y (Xx (ov Y) fun hp=>ow Y<|gT hp)<|Rm Y<|Rq Y (.guarded (((decide (p.Kind = 4)) && (!decide (q = 0))) == false) Y Y Y Y fun h => Zd (ov Y) ZaR)<|Rq Y (.guarded (((decide (p.Kind = 4)) && (!decide (q = 0))) == false) Y Y Y Y fun h => Zc (ow Y h) tS3 Y)<|Rq Y (.guarded (((decide (p.Kind = 4)) && (!decide (q = 0))) == false) Y Y Y Y fun h => QZ (ow Y h)<|ov Y)<|Rq Y (.guarded (((decide (p.Kind = 4)) && (!decide (q = 0))) == false) Y Y Y Y fun h => Zz<|ow Y h)<|Rq Y (.guarded2 ((((decide (p.Kind = 4)) && (!decide (q = 0))) == false) && ((decide (p.Kind = 5)) == true)) Y Y Y Y fun h => Zz<|ov Y)<|Rq Y (.guarded2 ((((decide (p.Kind = 4)) && (!decide (q = 0))) == false) && ((decide (p.Kind = 5)) == true)) Y Y Y Y fun h => Qp (ow Y h)<|ov Y)<|Rq Y (.guarded (((decide (p.Kind = 4)) && (!decide (q = 0))) == false) Y Y Y Y fun h => Xx (ow Y h) fun hp=>ow Y<|gA h<|gT hp)<|Rq Y (Jk (ov Y) fun hp=>ow Y<|gF hp)<|Rm Y<|Rq Y (.guarded ((((decide (p.Kind = 4)) && (!decide (q = 0))) || ((decide (p.Kind = 5)) && (!decide (y = 1)))) == false) Y Y Y Y fun h => Zd (ov Y) ZaR)<|Rq Y (.guarded ((((decide (p.Kind = 4)) && (!decide (q = 0))) || ((decide (p.Kind = 5)) && (!decide (y = 1)))) == false) Y Y Y Y fun h => Zc (ow Y h) tS3 Y)<|Rq Y (.guarded ((((decide (p.Kind = 4)) && (!decide (q = 0))) || ((decide (p.Kind = 5)) && (!decide (y = 1)))) == false) Y Y Y Y fun h => QZ (ow Y h)<|ov Y)<|Rq Y (.guarded ((((decide (p.Kind = 4)) && (!decide (q = 0))) || ((decide (p.Kind = 5)) && (!decide (y = 1)))) == false) Y Y Y Y fun h => Zz<|ow Y h)<|Rq Y (.guarded2 (((((decide (p.Kind = 4)) && (!decide (q = 0))) || ((decide (p.Kind = 5)) && (!decide (y = 1)))) == false) && ((decide (p.Kind = 2)) == false)) Y Y Y Y fun h => Zd (ov Y) ZaR)<|Rq Y (.guarded2 (((((decide (p.Kind = 4)) && (!decide (q = 0))) || ((decide (p.Kind = 5)) && (!decide (y = 1)))) == false) && ((decide (p.Kind = 2)) == false)) Y Y Y Y fun h => Zc (ow Y h) tS3 Y)<|Rq Y (.guarded2 (((((decide (p.Kind = 4)) && (!decide (q = 0))) || ((decide (p.Kind = 5)) && (!decide (y = 1)))) == false) && ((decide (p.Kind = 2)) == false)) Y Y Y Y fun h => QZ (ow Y h)<|ov Y)<|Rq Y (.guarded ((((decide (p.Kind = 4)) && (!decide (q = 0))) || ((decide (p.Kind = 5)) && (!decide (y = 1)))) == false) Y Y Y Y fun h => Jk (ow Y h) fun hp=>ow Y<|gA h<|gF hp)<|Rq Y (.guarded ((((decide (p.Kind = 4)) && (!decide (q = 0))) || ((decide (p.Kind = 5)) && (!decide (y = 1)))) == false) Y Y Y Y fun h => Zz<|ow Y h)<|Rq Y (.guarded2 (((((decide (p.Kind = 4)) && (!decide (q = 0))) || ((decide (p.Kind = 5)) && (!decide (y = 1)))) == false) && (((decide (p.Kind = 2)) || (decide (p.Kind = 3))) == true)) Y Y Y Y fun h => Zz<|ov Y)<|Rq Y (.guarded2 (((((decide (p.Kind = 4)) && (!decide (q = 0))) || ((decide (p.Kind = 5)) && (!decide (y = 1)))) == false) && (((decide (p.Kind = 2)) || (decide (p.Kind = 3))) == true)) Y Y Y Y fun h => QZ (ow Y h)<|ov Y)<|Rq Y (.guarded ((((decide (p.Kind = 4)) && (!decide (q = 0))) || ((decide (p.Kind = 5)) && (!decide (y = 1)))) == false) Y Y Y Y fun h => Xx (ow Y h) fun hp=>ow Y<|gA h<|gT hp)<|Rq Y (Jk (ov Y) fun hp=>ow Y<|gF hp)<|Za<|K3 1 3 38 Y<|If h Y (fun h=>?_) fun h=>?_
 ·
  refine K0<|Tr<|Ra Y<|Za<|?_
  obtain rfl := rt h
  exact Zk (Zp Y (.one<|rb Y))
 ·
  refine Ze<|Zl<|K2 1 3 Y<|Tr<|Rq Y (Zd (ov Y) ZaR)<|Rq Y (Zc (ov Y) tS3 Y)<|R2 Qp Y<|Za<|K3 1 3 41 Y<|If h Y (fun h=>?_) fun h=>?_
  ·
   refine Zl<|K1 1 Y<|Tr<|Rq Y (Zd (ov Y) JI)<|Rq Y (Zc (ov Y) Zdj Y)<|Rl tZ_9 ZbX Y<|R2 JC Y<|Za<|K1 45 Y<|If h Y (fun h=>?_) fun h=>?_
   ·
    refine K0<|Tr<|Ra Y<|Za<|?_
    obtain rfl := rt h
    exact Zk (Zp Y (.one<|rb Y))
   ·
    refine Ze<|K0<|Tr<|Ra Y<|Za<|?_
    obtain rfl := rt h
    exact Zk (Zp Y (.one<|rb Y))
  ·
   refine Ze<|Zl<|Zh<|K2 1 3 Y<|Tr<|Rq Y (Zd (ov Y) JI)<|Rq Y (Zc (ov Y) Zdj Y)<|Rl tZ_9 ZbX Y<|R2 QZ Y<|Ra Y<|Za<|K3 1 3 46 Y<|If h Y (fun h=>?_) fun h=>?_
   ·
    refine K0<|Tr<|Ra Y<|Za<|?_
    obtain rfl := rt h
    exact Zk (Zp Y (.one<|rb Y))
   ·
    refine K2 1 3 Y<|Td md0<|Dq 0 Y (Zd (ov Y) JI)<|Dq 1 Y (Zc (ov Y) Zdj Y)<|Dq 2 Y (ZeJ (ZV (ov Y) tZ_9) ZbX<|ZbU _ _)<|D2 3 JC Y<|D1 4 Zz Y<|Dq 5 Y (.guarded ((decide (64 < (p.Names.length : Int))) == false) Y Y Y Y fun h => Zd (ov Y) JI)<|Dq 6 Y (.guarded ((decide (64 < (p.Names.length : Int))) == false) Y Y Y Y fun h => Zc (ow Y h) Zdj Y)<|Dq 7 Y (.guarded ((decide (64 < (p.Names.length : Int))) == false) Y Y Y Y fun h => ZeJ (ZV (ow Y h) tZ_9) ZbX<|ZbU _ _)<|Dq 8 Y (.guarded ((decide (64 < (p.Names.length : Int))) == false) Y Y Y Y fun h => Zz<|ov Y)<|bE h fun q2 h_q2 h=>Dq 9 Y (.guarded ((decide (64 < (p.Names.length : Int))) == false) Y Y Y Y fun h => Zec (ov Y) (ow Y h)<|gdT h_q2 h)<|Dq 10 Y (.guarded ((decide (64 < (p.Names.length : Int))) == false) Y Y Y Y fun h => JC (ow Y h)<|ow Y h)<|Dq 11 Y (Jk (ov Y) fun hp=>ow Y<|gF hp)<|D1 12 Jz Y<|Dd<|K2 1 51 Y<|If h Y (fun h=>?_) fun h=>?_
    ·
     refine K0<|Tr<|Ra Y<|Za<|?_
     obtain rfl := rt h
     exact Zk (Zp Y (.one<|rb Y))
    ·
     refine Ze<|J0 (fun j => (.inr j)) ⟨[], []⟩ h (fun h=>?_) fun h=>?_
     ·
      refine K1 1 Y<|Tr<|Rq Y (Zd (ov Y) JI)<|Rq Y (Zc (ov Y) Zdj Y)<|Rl tZ_9 ZbX Y<|Rm Y<|Za<|Zh<|?_
      obtain ⟨r1, hl1, ho1⟩ := QA h
      refine L1 (fun i=>⟨[(1, .rp [.str p.Name, .int .i64 p.Kind, .sl 64 (List.map R64 p.Parts), .int .i64 p.First, .int .i64 p.Every, .int .i64 p.Times, .int .i64 p.Step, .sl 9 (List.map R9 p.Names)] 0), (65, .sl 9 (List.map R9 p.Names)), (66, .int .i64 (p.Names.length : Int)), (67, .int .i64 i)], []⟩) hl1 (ES []) fun n1 i h=>?_
      unfold Qj at h
      refine Tr<|R2 ZM Y<|Za<|Zl<|If h Y (fun h=>?_) fun h=>?_
      ·
       refine Ze<|Zl<|Zh<|K4 1 65 66 67 Y<|Tr<|Rm Y<|bE h fun x h_x h=>Rq Y (ZE (ov Y) (ov Y) ZbX h_x)<|Rq Y (Zc (ov Y) tS9 Y)<|Ra Y<|Ra Y<|Za<|Zl<|K6 1 4 5 65 66 67 Y<|Tr<|Rm Y<|bE h fun y2 h_y2 h=>Rq Y (Zr (Zc3 h_y2)<|.cons (ov Y) (.b Y) .nil)<|R1 Xy Y<|Za<|K7 1 4 5 65 66 67 74 Y<|If h Y (fun h=>?_) fun h=>?_
       ·
        refine K0<|Tr<|Ra Y<|Za<|?_
        replace h := lx h ▸ ho1
        obtain rfl := rt h
        exact Zk (Zp Y (.one<|rb Y))
       ·
        refine Ze<|K6 1 4 5 65 66 67 Y<|Tr<|Rq Y (Zd (ov Y) JI)<|Rq Y (Zc (ov Y) Zdj Y)<|Rm Y<|bE h fun l h_l h=>Rq Y (Zff (ov Y) ZbX on (oi<|ov Y) h_l)<|Rm Y<|bE h fun y3 h_y3 h=>Rq Y (Zr (Zbs h_y3)<|.cons (ov Y) (.b Y)<|.cons (ov Y) (.b Y) .nil)<|Za<|K5 1 65 66 67 80 Y<|If h Y (fun h=>?_) fun h=>?_
        ·
         refine K0<|Tr<|Ra Y<|Za<|?_
         replace h := lx h ▸ ho1
         obtain rfl := rt h
         exact Zk (Zp Y (.one<|rb Y))
        ·
         exact Ze<|K4 1 65 66 67 Y<|Zy<|R2 Z5 Y<|Rm Y<|Za<|⟨_, h, ES []⟩
      ·
       refine ZC<|?_
       replace h := lx h ▸ ho1
       exact ⟨(), h, ES []⟩
     ·
      replace h := elr h
      replace h := t0i h
      refine Tr<|Ra Y<|Za<|?_
      obtain rfl := rt h
      exact Zk (Zp Y (.one<|rb Y))
theorem J7 {s : List api_Part} {f : api_Part → Option Bool} {r : Int} {f_f : FuncId} {f_c : List AV} (f_d : f_c.all datB = true) (f_h : ∀ (z0 : api_Part) z, f z0 = some z → CSpec Try.prog gl0 f_f ([.agg [.int .i64 z0.Frame, .int .i64 z0.Word, .int .i64 z0.Low, .int .i64 z0.Bits]] ++ f_c) (.bool z)) (h : ZJ s f = some r) :
 CSpec Try.prog gl0 86 [.sl 64 (List.map R64 s), .fn f_f f_c] (.int .i64 r) := by
 unfold ZJ at h
 replace h := Qf h
 refine So Try.func86 Y fun w0 A=>Tr<|Ra Y<|Za<|J0 (fun j => (.inr j)) ⟨[], []⟩ h (fun h=>?_) fun h=>?_
 ·
  refine K2 0 1 Y<|Tr<|Rm Y<|Rl tZ_64 Xs Y<|Rm Y<|Za<|Zh<|?_
  obtain ⟨r1, hl1, ho1⟩ := QA h
  refine L1 (fun i=>⟨[(0, .sl 64 (List.map R64 s)), (1, .fn f_f f_c), (7, .int .i64 (s.length : Int)), (8, .int .i64 i)], []⟩) hl1 (ES []<|sd 0 Y Y<|sr 1 Y (rFn<|rld f_d)<|sd 7 Y Y<|sd 8 Y Y sn) fun n1 i h=>?_
  unfold ZB at h
  refine Tr<|R2 ZM Y<|Za<|Zl<|If h Y (fun h=>?_) fun h=>?_
  ·
   refine Ze<|Zl<|Zh<|K4 0 1 7 8 Y<|Tr<|Rm Y<|Ra Y<|Za<|K5 0 1 5 7 8 Y<|Tr<|Rm Y<|Rm Y<|Rm Y<|bE h fun x h_x h=>Rq Y (ZE (ov Y) (ov Y) Xs h_x)<|Rq Y (Zj (ov Y) X8 Y Y)<|bE h fun y h_y h=>Rq Y (JP (ov Y) f_d (f_h _ _ h_y)<|.cons (ov Y) (.aggB Y) .nil)<|Za<|K6 0 1 5 7 8 16 Y<|If h Y (fun h=>?_) fun h=>?_
   ·
    refine K1 5 Y<|Tr<|Rm Y<|Ra Y<|Za<|?_
    replace h := lx h ▸ ho1
    obtain rfl := rt h
    exact Zk (Zp Y (.one<|rb Y))
   ·
    exact Ze<|K4 0 1 7 8 Y<|Zy<|R2 Z5 Y<|Rm Y<|Za<|⟨_, h, ES []<|sd 0 Y Y<|sr 1 Y (rFn<|rld f_d)<|sd 7 Y Y<|sd 8 Y Y sn⟩
  ·
   refine ZC<|?_
   replace h := lx h ▸ ho1
   exact ⟨(), h, ES []⟩
 ·
  replace h := elr h
  replace h := t0i h
  refine Tr<|Ra Y<|Za<|?_
  obtain rfl := rt h
  exact Zk (Zp Y (.one<|rb Y))
theorem JJ {s : List api_Part} {f : api_Part → Option Bool} {r : Bool} {f_f : FuncId} {f_c : List AV} (f_d : f_c.all datB = true) (f_h : ∀ (z0 : api_Part) z, f z0 = some z → CSpec Try.prog gl0 f_f ([.agg [.int .i64 z0.Frame, .int .i64 z0.Word, .int .i64 z0.Low, .int .i64 z0.Bits]] ++ f_c) (.bool z)) (h : ZA s f = some r) :
 CSpec Try.prog gl0 61 [.sl 64 (List.map R64 s), .fn f_f f_c] (.bool r) := by
 unfold ZA at h
 replace h := Qf h
 refine So Try.func61 Y fun w0 A=>Tr<|Ra Y<|Za<|Tr<|Rm Y<|Rm Y<|bE h fun y h_y h=>Rq Y (Zr (J7 f_d f_h h_y)<|.cons (ov Y) (.b Y)<|.cons (ov Y) (Dat.fnC<|.refl fun x hx => .b<|List.all_eq_true.1 f_d x hx) .nil)<|R2 ZcB Y<|Ra Y<|Za<|?_
 obtain rfl := rt h
 exact Zk (Zp Y (.one<|rb Y))
theorem ZeX {x : api_Part} {c0 : Int} {r : Bool} (h : Q0 x c0 = some r) :
 CSpec Try.prog gl0 62 [.agg [.int .i64 x.Frame, .int .i64 x.Word, .int .i64 x.Low, .int .i64 x.Bits], .rp [.int .i64 c0] 0] (.bool r) := by
 unfold Q0 at h
 replace h := Qf h
 refine So Try.func62 Y fun w0 A=>Tr<|Rq Y (ZY (cva<|ov Y) Y tZ_64 Y)<|Ra Y<|Za<|K3 1 2 3 Y<|Tr<|Rq Y (Zc (ov Y) tS3 Y)<|Rq Y (Zd (ov Y) Ze2)<|Rq Y (Zc (ov Y) tS3 Y)<|R2 Z5 Y<|R2 ZcB Y<|Ra Y<|Za<|?_
 obtain rfl := rt h
 exact Zk (Zp Y (.one<|rb Y))
theorem ZbB {p : api_Param} {r : (List Int)} (h : Xb p = some r) :
 CSpec Try.prog gl0 39 [.agg [.str p.Name, .int .i64 p.Kind, .sl 64 (List.map R64 p.Parts), .int .i64 p.First, .int .i64 p.Every, .int .i64 p.Times, .int .i64 p.Step, .sl 9 (List.map R9 p.Names)]] (.sl 3 (List.map R3 r)) := by
 unfold Xb at h
 replace h := Qf h
 refine So Try.func39 Y fun w0 A=>Tr<|Rq Y (ZY (cva<|ov Y) Y tZ_44 Y)<|Ra Y<|Za<|K1 1 Y<|Tr<|Ra Y<|Za<|I1 (fun out=>⟨[(3, .own 0 out.length)], [some ⟨3, List.map R3 out⟩]⟩) h (fun h=>?_) fun out h=>?_
 ·
  refine Tr<|Rq Y (Zd (ov Y) ZfY)<|Rq Y (Zc (ov Y) tS3 Y)<|Rx Y (Zs (row := [_]) 0 Y tZ3 Y tZ_3)<|Rx Y (Zg (ov Y) (ov Y) (Zv tS3) Y Y Y (Nat.le_of_ble_eq_true Y) (Zb Y) Y)<|Za<|Zh<|?_
  obtain ⟨r1, hl1, ho1⟩ := QA h
  refine L2 (fun out2 f=>⟨[(1, .rp [.str p.Name, .int .i64 p.Kind, .sl 64 (List.map R64 p.Parts), .int .i64 p.First, .int .i64 p.Every, .int .i64 p.Times, .int .i64 p.Step, .sl 9 (List.map R9 p.Names)] 0), (3, .own 0 out2.length), (4, .ptr 1 1 0 0)], [some ⟨3, List.map R3 out2⟩, some ⟨3, [[.int .i64 f]]⟩]⟩) hl1 (ES [none, some 0]) fun n1 out2 f h=>?_
  unfold Qd at h
  refine Zl<|Tr<|Rq Y (Zm (ov Y) Y Y Y tS3 Y)<|R2 ZM Y<|Za<|K4 1 3 4 8 Y<|If h Y (fun h=>?_) fun h=>?_
  ·
   refine Ze<|I1 (fun out3=>⟨[(1, .rp [.str p.Name, .int .i64 p.Kind, .sl 64 (List.map R64 p.Parts), .int .i64 p.First, .int .i64 p.Every, .int .i64 p.Times, .int .i64 p.Step, .sl 9 (List.map R9 p.Names)] 0), (3, .own 0 out3.length), (4, .rp [.int .i64 f] 0)], [some ⟨3, List.map R3 out3⟩]⟩) h (fun h=>?_) fun out3 h=>?_
   ·
    refine Zh<|K3 1 3 4 Y<|Tr<|Rq Y (Zd (ov Y) Q4)<|Rq Y (Zc (ov Y) Zbv Y)<|ZeH (Ent.sel [some 0, none] (sd 1 Y Y<|sr 3 Y (.own (r' := 0) _ Y)<|sr 4 Y (.frp ⟨Y, ⟨_, Y⟩, Y, Y⟩)<|sd 13 Y Y<|sd 14 Y Y sn) (.cons Y (roM D3)<|.row 3 .nil) Y Y)<|Rq Y (QI<|.cons (ov Y) .nil)<|bE h fun y h_y h=>Rq Y (Zr (JJ Y (fun z0 _ hz=>ZeX hz) h_y)<|.cons (ov Y) (.b Y)<|.cons (ov Y) (.fnC<|.cons (.b Y) .nil) .nil)<|R1 Xy Y<|Za<|K4 1 3 4 17 Y<|If h Y (fun h=>?_) fun h=>?_
    ·
     exact K3 1 3 4 Y<|Zy<|Rm Y<|Rq Y (Zc (ov Y) tS3 Y)<|R_q (.sl 3<|List.map R3 ([f] : List Int)) Y (X7 ZaS (.cons (cvs (ov Y)<|Zq Y) Y (.cons (.b Y) .nil) .nil) Y Y)<|bE h fun l h_l h=>Rx Y (ZX (ov Y) (ZV (ov Y) tZ_3) ZaS Y Y Y (fun _=>Zb Y) Y h_l)<|Ra Y<|Za<|⟨_, h, ES [some 0]⟩
    ·
     exact Ze<|⟨_, h, ES [some 0]⟩
   ·
    exact Zl<|Tr<|Rq Y (Zc (ov Y) tS3 Y)<|Za<|Zy<|Rx Y (Zs (row := [_]) 1 Y tZ3 Y tZ_3)<|Rx Y (Zg (ov Y) (ov Y) (Zv tS3) Y Y Y (Nat.le_of_ble_eq_true Y) (Zb Y) Y)<|Za<|K3 1 3 4 Y<|Zy<|Rq Y (Zm (ov Y) Y Y Y tS3 Y)<|Rq Y (Zd (ov Y) ZdS)<|Rq Y (Zc (ov Y) tS3 Y)<|R2 Z5 Y<|Rx Y (Zg (ov Y) (ov Y) (Zv tS3) Y Y Y (Nat.le_of_ble_eq_true Y) (Zb Y) Y)<|Za<|⟨_, h, ES [some 0, some 1]⟩
  ·
   refine ZC<|?_
   replace h := lx h ▸ ho1
   exact ⟨_, h, ES [some 0]⟩
 ·
  refine Tr<|Rm Y<|Ra Y<|Za<|?_
  obtain rfl := rt h
  exact Zk (Zp Y (.one<|.tmp Y<|View.ownM Y Y D3))
theorem ZcS {p : api_Param} {x : api_Part} {f : Int} {j : Int} {r : api_Place} (h : QW p x f j = some r) :
 CSpec Try.prog gl0 63 [.agg [.str p.Name, .int .i64 p.Kind, .sl 64 (List.map R64 p.Parts), .int .i64 p.First, .int .i64 p.Every, .int .i64 p.Times, .int .i64 p.Step, .sl 9 (List.map R9 p.Names)], .agg [.int .i64 x.Frame, .int .i64 x.Word, .int .i64 x.Low, .int .i64 x.Bits], .int .i64 f, .int .i64 j] (.agg [.int .i64 r.Frame, .int .i64 r.Word, .int .i64 r.Low, .int .i64 r.Bits]) := by
 unfold QW at h
 replace h := Qf h
 refine So Try.func63 Y fun w0 A=>Tr<|Rq Y (ZY (cva<|ov Y) Y tZ_44 Y)<|Rq Y (ZY (cva<|ov Y) Y tZ_64 Y)<|Rx Y (Zs (row := [_, _, _, _]) 0 Y ZhQ Y tZ_59)<|Za<|K5 2 3 4 5 8 Y<|Tr<|Rm Y<|Rq Y (Zd (ov Y) Ze2)<|Rq Y (Zc (ov Y) tS3 Y)<|R2 Z5 Y<|Rq Y (Zd (ov Y) Zb9)<|Rq Y (Zc (ov Y) tS3 Y)<|Rm Y<|Rq Y (Zd (ov Y) Zbp)<|Rq Y (Zc (ov Y) tS3 Y)<|R2 Zhc Y<|R2 Z5 Y<|Rq Y (Zd (ov Y) Zcd)<|Rq Y (Zc (ov Y) tS3 Y)<|Rq Y (Zd (ov Y) Zdm)<|Rq Y (Zc (ov Y) tS3 Y)<|Rq Y (Z7 (ys := [_, _, _, _]) Zkg Zlb ZhQ (.cons (cvs (ov Y)<|Zq Y)<|.cons (cvs (ov Y)<|Zq Y)<|.cons (cvs (ov Y)<|Zq Y)<|.cons (cvs (ov Y)<|Zq Y) .nil) Y)<|Rx Y (Zg (ov Y) (ov Y) (Zf Zfp Y) Y Y Y (Nat.le_of_ble_eq_true Y) (Zb Y) Y)<|Za<|?_
 obtain rfl := rt h
 exact Zk (Zp Y (.one<|.agg Y Y Y Y Zfp Y Y<|pwB Y))
theorem Zbq {number : Int} {p : api_Param} {r : (List api_Cell)} (h : QB number p = some r) :
 CSpec Try.prog gl0 40 [.int .i64 number, .agg [.str p.Name, .int .i64 p.Kind, .sl 64 (List.map R64 p.Parts), .int .i64 p.First, .int .i64 p.Every, .int .i64 p.Times, .int .i64 p.Step, .sl 9 (List.map R9 p.Names)]] (.sl 34 (List.map R34 r)) := by
 unfold QB at h
 replace h := Qf h
 refine So Try.func40 Y fun w0 A=>Tr<|Rq Y (ZY (cva<|ov Y) Y tZ_44 Y)<|Ra Y<|Za<|K2 0 3 Y<|Tr<|Ra Y<|Za<|I1 (fun out=>⟨[(5, .own 0 out.length)], [some ⟨34, List.map R34 out⟩]⟩) h (fun h=>?_) fun out h=>?_
 ·
  refine Tr<|Rq Y (Zj (ov Y) Zw Y Y)<|bE h fun y h_y h=>Rq Y (Zr (ZbB h_y)<|.cons (ov Y) (.aggB Y) .nil)<|Rl tZ_3 ZaS Y<|Rm Y<|Za<|Zh<|?_
  obtain ⟨r1, hl1, ho1⟩ := QA h
  refine L2 (fun out2 i=>⟨[(0, .int .i64 number), (3, .rp [.str p.Name, .int .i64 p.Kind, .sl 64 (List.map R64 p.Parts), .int .i64 p.First, .int .i64 p.Every, .int .i64 p.Times, .int .i64 p.Step, .sl 9 (List.map R9 p.Names)] 0), (5, .own 0 out2.length), (13, .sl 3 (List.map R3 y)), (14, .int .i64 (y.length : Int)), (15, .int .i64 i)], [some ⟨34, List.map R34 out2⟩]⟩) hl1 (ES [none]) fun n1 out2 i h=>?_
  unfold Qs at h
  refine Tr<|R2 ZM Y<|Za<|Zl<|If h Y (fun h=>?_) fun h=>?_
  ·
   refine Ze<|I1 (fun out3=>⟨[(0, .int .i64 number), (3, .rp [.str p.Name, .int .i64 p.Kind, .sl 64 (List.map R64 p.Parts), .int .i64 p.First, .int .i64 p.Every, .int .i64 p.Times, .int .i64 p.Step, .sl 9 (List.map R9 p.Names)] 0), (5, .own 0 out3.length), (13, .sl 3 (List.map R3 y)), (14, .int .i64 (y.length : Int)), (15, .int .i64 i)], [some ⟨34, List.map R34 out3⟩]⟩) h (fun h=>?_) fun out3 h=>?_
   ·
    refine Zh<|K6 0 3 5 13 14 15 Y<|Tr<|bE h fun x h_x h=>Rq Y (ZE (ov Y) (ov Y) ZaS h_x)<|Rq Y (Zc (ov Y) tS3 Y)<|Ra Y<|Za<|K7 0 3 5 7 13 14 15 Y<|Tr<|Rq Y (Zd (ov Y) ZaQ)<|Rq Y (Zc (ov Y) tS3 Y)<|Rm Y<|Za<|Zh<|?_
    obtain ⟨r2, hl2, ho2⟩ := QA h
    refine L2 (fun out4 i2=>⟨[(0, .int .i64 number), (3, .rp [.str p.Name, .int .i64 p.Kind, .sl 64 (List.map R64 p.Parts), .int .i64 p.First, .int .i64 p.Every, .int .i64 p.Times, .int .i64 p.Step, .sl 9 (List.map R9 p.Names)] 0), (5, .own 0 out4.length), (7, .int .i64 x), (13, .sl 3 (List.map R3 y)), (14, .int .i64 (y.length : Int)), (15, .int .i64 i), (20, .int .i64 p.Times), (21, .int .i64 i2)], [some ⟨34, List.map R34 out4⟩]⟩) hl2 (ES [some 0]) fun n2 out4 i2 h=>?_
    unfold XY at h
    refine Tr<|R2 ZM Y<|Za<|Zl<|If h Y (fun h=>?_) fun h=>?_
    ·
     refine Ze<|Zl<|Zh<|K9 0 3 5 7 13 14 15 20 21 Y<|Tr<|Rm Y<|Ra Y<|Za<|K10 0 3 5 7 8 13 14 15 20 21 Y<|Tr<|Rm Y<|Rm Y<|Rq Y (Zjb (ov Y) Y Y Zb6)<|Rm Y<|Rq Y (Z7 (ys := [_, _, _, _]) ZlN ZlL ZgJ (.cons (cvs (ov Y)<|Zq Y)<|.cons (cvs (ov Y)<|Zq Y)<|.cons (cvs (ov Y)<|Zq Y) .nil) Y)<|Rx Y (Zs (row := [_, _, _, _]) 1 Y ZgJ Y tZ_34)<|Rx Y (Zg (ov Y) (ov Y) (Zf Zdn Y) Y Y Y (Nat.le_of_ble_eq_true Y) (Zb Y) Y)<|Za<|I1 (fun Places=>⟨[(0, .int .i64 number), (3, .rp [.str p.Name, .int .i64 p.Kind, .sl 64 (List.map R64 p.Parts), .int .i64 p.First, .int .i64 p.Every, .int .i64 p.Times, .int .i64 p.Step, .sl 9 (List.map R9 p.Names)] 0), (5, .own 0 out4.length), (7, .int .i64 x), (9, .ptr 1 1 0 0), (13, .sl 3 (List.map R3 y)), (14, .int .i64 (y.length : Int)), (15, .int .i64 i), (20, .int .i64 p.Times), (21, .int .i64 i2)], [some ⟨34, List.map R34 out4⟩, some ⟨34, [[.int .i64 number, .int .i64 (out4.length : Int), .int .i64 x, .own 2 Places.length]]⟩, some ⟨59, List.map R59 Places⟩]⟩) h (fun h=>?_) fun Places h=>?_
     ·
      refine K11 0 3 5 7 8 9 13 14 15 20 21 Y<|Tr<|Rq Y (Zd (ov Y) Q4)<|Rq Y (Zc (ov Y) Zbv Y)<|Rl tZ_64 Xs Y<|Rm Y<|Za<|Zh<|?_
      obtain ⟨r3, hl3, ho3⟩ := QA h
      refine L2 (fun Places2 i3=>⟨[(0, .int .i64 number), (3, .rp [.str p.Name, .int .i64 p.Kind, .sl 64 (List.map R64 p.Parts), .int .i64 p.First, .int .i64 p.Every, .int .i64 p.Times, .int .i64 p.Step, .sl 9 (List.map R9 p.Names)] 0), (5, .own 0 out4.length), (7, .int .i64 x), (8, .int .i64 i2), (9, .ptr 1 1 0 0), (13, .sl 3 (List.map R3 y)), (14, .int .i64 (y.length : Int)), (15, .int .i64 i), (20, .int .i64 p.Times), (21, .int .i64 i2), (30, .sl 64 (List.map R64 p.Parts)), (31, .int .i64 (p.Parts.length : Int)), (32, .int .i64 i3)], [some ⟨34, List.map R34 out4⟩, some ⟨34, [[.int .i64 number, .int .i64 (out4.length : Int), .int .i64 x, .own 2 Places2.length]]⟩, some ⟨59, List.map R59 Places2⟩]⟩) hl3 (ES [some 0, some 1, none]) fun n3 Places2 i3 h=>?_
      unfold Z6 at h
      refine Tr<|R2 ZM Y<|Za<|Zl<|If h Y (fun h=>?_) fun h=>?_
      ·
       exact Ze<|Zl<|Zh<|XE (kc 0 Y<|kc 3 Y<|kc 5 Y<|kc 7 Y<|kc 8 Y<|kc 9 Y<|kc 13 Y<|kc 14 Y<|kc 15 Y<|kc 20 Y<|kc 21 Y<|kc 30 Y<|kc 31 Y<|kc 32 Y kn) Y<|Tr<|bE h fun x2 h_x2 h=>Rq Y (ZE (ov Y) (ov Y) Xs h_x2)<|Rq Y (Zj (ov Y) X8 Y Y)<|Rx Y (Zs (row := [_, _, _, _]) 3 Y ZeR Y tZ_64)<|Rx Y (Zg (ov Y) (ov Y) (Zf X8 Y) Y Y Y (Nat.le_of_ble_eq_true Y) (Zb Y) Y)<|Za<|XE (kc 0 Y<|kc 3 Y<|kc 5 Y<|kc 7 Y<|kc 8 Y<|kc 9 Y<|kc 11 Y<|kc 13 Y<|kc 14 Y<|kc 15 Y<|kc 20 Y<|kc 21 Y<|kc 30 Y<|kc 31 Y<|kc 32 Y kn) Y<|ZgM (cw := md0) (by kernel_rfl)<|Dq 0 Y (Zi (ov Y) Y Y ZcX)<|Dq 1 Y (Zm (ov Y) Y Y Y Zhe Y)<|Dq 2 Y (Zj (ov Y) Zw Y Y)<|Dq 3 Y (Zn (ov Y) Y Y Y X8 Y Y)<|D1 4 Zz Y<|D1 5 Zz Y<|bE h fun y2 h_y2 h=>Dq 6 Y (Zr (ZcS h_y2)<|.cons (ov Y) (.aggB Y)<|.cons (ov Y) (.aggB Y)<|.cons (ov Y) (.b Y)<|.cons (ov Y) (.b Y) .nil)<|Zlh 7 (.sl 59<|List.map R59 ([y2] : List api_Place)) Y (by kernel_rfl) Y Y (X7 ZdL (.cons (cva<|ov Y) Y (pwD Y) .nil) Y Y)<|bE h fun l h_l h=>Do 8 Y (ZX (ov Y) (ZV (ov Y) tZ_59) ZdL Y Y Y (fun _=>Zb Y) Y h_l)<|Dq 9 Y (Zi (ov Y) Y Y ZcX)<|Do 10 Y (Zg (ov Y) (ov Y) (Zv Zhe) Y Y Y (Nat.le_of_ble_eq_true Y) (Zb Y) Y)<|Dd<|XE (kc 0 Y<|kc 3 Y<|kc 5 Y<|kc 7 Y<|kc 8 Y<|kc 9 Y<|kc 13 Y<|kc 14 Y<|kc 15 Y<|kc 20 Y<|kc 21 Y<|kc 30 Y<|kc 31 Y<|kc 32 Y kn) Y<|Zy<|R2 Z5 Y<|Rm Y<|Za<|⟨_, h, ES [some 0, some 1, some 2]⟩
      ·
       refine ZC<|?_
       replace h := lx h ▸ ho3
       exact ⟨_, h, ES [some 0, some 1, some 2]⟩
     ·
      exact Zy<|Rm Y<|Rq Y (Zn (ov Y) Y Y Y Zdn Y Y)<|ZeH (Ent.sel [some 0, some 1, none] (sd 0 Y Y<|sd 3 Y Y<|sr 5 Y (.own (r' := 0) _ Y)<|sd 7 Y Y<|sr 9 Y (.ptr (r' := 1) _ _ _ Y)<|sd 13 Y Y<|sd 14 Y Y<|sd 15 Y Y<|sd 20 Y Y<|sd 21 Y Y<|sr 47 Y (.own (r' := 0) _ Y)<|sr 48 Y (ZN<|rlc (.dat Y)<|rlc (.dat Y)<|rlc (.dat Y)<|rlc (ZiY Y Y Y D59) rln) sn) (.cons Y (roM D34)<|.cons Y (ro1 (by exact tZ_34.symm)<|rlc (.dat Y)<|rlc (.dat Y)<|rlc (.dat Y)<|rlc (ZiY Y Y Y D59) rln)<|.row 59 .nil) Y Y)<|R_q (.sl 34<|List.map R34 ([(api_Cell.mk number (out4.length : Int) x Places)] : List api_Cell)) Y (X7 Zb6 (.cons (cva<|ov Y) Y (pwD Y) .nil) Y Y)<|bE h fun l2 h_l2 h=>Rx Y (ZX (ov Y) (ZV (ov Y) tZ_34) Zb6 Y Y Y (fun _=>Zb Y) Y h_l2)<|Ra Y<|Za<|K9 0 3 5 7 13 14 15 20 21 Y<|Zy<|R2 Z5 Y<|Rm Y<|Za<|⟨_, h, ES [some 0]⟩
    ·
     refine ZC<|?_
     replace h := lx h ▸ ho2
     exact ⟨_, h, ES [some 0]⟩
   ·
    exact Zy<|R2 Z5 Y<|Rm Y<|Za<|⟨_, h, ES [some 0]⟩
  ·
   refine ZC<|?_
   replace h := lx h ▸ ho1
   exact ⟨_, h, ES [some 0]⟩
 ·
  refine Tr<|Rm Y<|Ra Y<|Za<|?_
  obtain rfl := rt h
  exact Zk (Zp Y (.one<|.tmp Y<|View.ownM Y Y D34))
theorem Zc9 {x : api_Place} {r : (List layout_bit)} (h : Xv x = some r) :
 CSpec Try.prog gl0 64 [.agg [.int .i64 x.Frame, .int .i64 x.Word, .int .i64 x.Low, .int .i64 x.Bits]] (.sl 63 (List.map R63 r)) := by
 unfold Xv at h
 replace h := Qf h
 refine So Try.func64 Y fun w0 A=>Tr<|Rq Y (ZY (cva<|ov Y) Y tZ_59 Y)<|Ra Y<|Za<|K1 1 Y<|Tr<|Ra Y<|Za<|I1 (fun out=>⟨[(3, .own 0 out.length)], [some ⟨63, List.map R63 out⟩]⟩) h (fun h=>?_) fun out h=>?_
 ·
  refine Tr<|Rq Y (Zd (ov Y) ZfU)<|Rq Y (Zc (ov Y) tS3 Y)<|Rm Y<|Za<|Zh<|?_
  obtain ⟨r1, hl1, ho1⟩ := QA h
  refine L2 (fun out2 i=>⟨[(1, .rp [.int .i64 x.Frame, .int .i64 x.Word, .int .i64 x.Low, .int .i64 x.Bits] 0), (3, .own 0 out2.length), (6, .int .i64 x.Bits), (7, .int .i64 i)], [some ⟨63, List.map R63 out2⟩]⟩) hl1 (ES [none]) fun n1 out2 i h=>?_
  unfold Q7 at h
  refine Tr<|R2 ZM Y<|Za<|Zl<|If h Y (fun h=>?_) fun h=>?_
  ·
   exact Ze<|Zl<|Zh<|K4 1 3 6 7 Y<|Tr<|Rm Y<|Ra Y<|Za<|K5 1 3 4 6 7 Y<|Zy<|Rm Y<|Rq Y (Zd (ov Y) Zh7)<|Rq Y (Zc (ov Y) tS3 Y)<|Rq Y (Zd (ov Y) ZhP)<|Rq Y (Zc (ov Y) tS3 Y)<|Rq Y (Zd (ov Y) ZgI)<|Rq Y (Zc (ov Y) tS3 Y)<|Rm Y<|R2 Z5 Y<|Rq Y (Z7 (ys := [_, _, _]) ZmZ ZmV Zmh (.cons (cvs (ov Y)<|Zq Y)<|.cons (cvs (ov Y)<|Zq Y)<|.cons (cvs (ov Y)<|Zq Y) .nil) Y)<|R_q (.sl 63<|List.map R63 ([(layout_bit.mk x.Frame x.Word (i64 (x.Low + i)))] : List layout_bit)) Y (X7 Zhx (.cons (cva<|ov Y) Y (pwD Y) .nil) Y Y)<|bE h fun l h_l h=>Rx Y (ZX (ov Y) (ZV (ov Y) tZ_63) Zhx Y Y Y (fun _=>Zb Y) Y h_l)<|Ra Y<|Za<|K4 1 3 6 7 Y<|Zy<|R2 Z5 Y<|Rm Y<|Za<|⟨_, h, ES [some 0]⟩
  ·
   refine ZC<|?_
   replace h := lx h ▸ ho1
   exact ⟨_, h, ES [some 0]⟩
 ·
  refine Tr<|Rm Y<|Ra Y<|Za<|?_
  obtain rfl := rt h
  exact Zk (Zp Y (.one<|.tmp Y<|View.ownM Y Y D63))
theorem JV {taken : List (layout_bit × Int)} {owner : Int} {l : List api_Place} {r : Bool × (List (layout_bit × Int))} (h : Xd taken owner l = some r) :
 GSpec Try.prog gl0 41 [.mref 0 1, .int .i64 owner, .sl 59 (List.map R59 l)] [some ⟨60, [[.mcon (List.map (ZZ ZS FV3) taken)]]⟩] (.bool r.1) [some ⟨60, [[.mcon (List.map (ZZ ZS FV3) r.2)]]⟩] := by
 unfold Xd at h
 replace h := Qf h
 refine ZaB (by kernel_rfl) Try.func41 Y Y<|?_
 intro w0 A W φ0
 refine Tr<|Ra Y<|Za<|J1 (fun j => (.inr j)) (fun o=>⟨[], [some ⟨60, [[.mcon (List.map (ZZ ZS FV3) o)]]⟩]⟩) h (fun h=>?_) fun o h=>?_
 ·
  refine K3 0 1 2 Y<|Tr<|Rm Y<|Rl tZ_59 ZdL Y<|Rm Y<|Za<|Zh<|?_
  obtain ⟨r1, hl1, ho1⟩ := QA h
  refine L2 (fun o2 i=>⟨[(0, .mref 0 1), (1, .int .i64 owner), (13, .sl 59 (List.map R59 l)), (14, .int .i64 (l.length : Int)), (15, .int .i64 i)], [some ⟨60, [[.mcon (List.map (ZZ ZS FV3) o2)]]⟩]⟩) hl1 (ES [some 0] (hhp := .cons Y (ZD (fk := ZS) (fv := FV3) (m := taken) tZ_60 (fun _=>ZN<|rld Y) fun _=>.ren<|.dat Y) .nil)) fun n1 o2 i h=>?_
  unfold QU at h
  refine Tr<|R2 ZM Y<|Za<|Zl<|If h Y (fun h=>?_) fun h=>?_
  ·
   refine Ze<|J1 (fun j => (.inr j)) (fun o3=>⟨[(0, .mref 0 1), (1, .int .i64 owner), (13, .sl 59 (List.map R59 l)), (14, .int .i64 (l.length : Int)), (15, .int .i64 i)], [some ⟨60, [[.mcon (List.map (ZZ ZS FV3) o3)]]⟩]⟩) h (fun h=>?_) fun o3 h=>?_
   ·
    refine Zh<|K5 0 1 13 14 15 Y<|Tr<|bE h fun x h_x h=>Rq Y (ZE (ov Y) (ov Y) ZdL h_x)<|Rq Y (Zj (ov Y) Zfp Y Y)<|Rx Y (Zs (row := [_, _, _, _]) 1 Y ZhQ Y tZ_59)<|Rx Y (Zg (ov Y) (ov Y) (Zf Zfp Y) Y Y Y (Nat.le_of_ble_eq_true Y) (Zb Y) Y)<|Za<|K6 0 1 8 13 14 15 Y<|Tr<|Rq Y (Zn (ov Y) Y Y Y Zfp Y Y)<|bE h fun y h_y h=>Rq Y (Zr (Zc9 h_y)<|.cons (ov Y) (.aggB Y) .nil)<|Rl tZ_63 Zhx Y<|Rm Y<|Za<|Zh<|?_
    obtain ⟨r2, hl2, ho2⟩ := QA h
    refine L2 (fun o4 i2=>⟨[(0, .mref 0 1), (1, .int .i64 owner), (13, .sl 59 (List.map R59 l)), (14, .int .i64 (l.length : Int)), (15, .int .i64 i), (20, .sl 63 (List.map R63 y)), (21, .int .i64 (y.length : Int)), (22, .int .i64 i2)], [some ⟨60, [[.mcon (List.map (ZZ ZS FV3) o4)]]⟩]⟩) hl2 (ES [some 0] (hhp := .cons Y (ZD (fk := ZS) (fv := FV3) (m := o2) tZ_60 (fun _=>ZN<|rld Y) fun _=>.ren<|.dat Y) .nil)) fun n2 o4 i2 h=>?_
    unfold QT at h
    refine Tr<|R2 ZM Y<|Za<|Zl<|If h Y (fun h=>?_) fun h=>?_
    ·
     refine Ze<|Zl<|Zh<|K8 0 1 13 14 15 20 21 22 Y<|Tr<|bE h fun x2 h_x2 h=>Rq Y (ZE (ov Y) (ov Y) Zhx h_x2)<|Rq Y (Zj (ov Y) Zi0 Y Y)<|Rx Y (Zs (row := [_, _, _]) 1 Y Zmh Y tZ_63)<|Rx Y (Zg (ov Y) (ov Y) (Zf Zi0 Y) Y Y Y (Nat.le_of_ble_eq_true Y) (Zb Y) Y)<|Za<|Zl<|K9 0 1 10 13 14 15 20 21 22 Y<|Tr<|Rm Y<|Rq Y (Zn (ov Y) Y Y Y Zi0 Y Y)<|bE h fun o5 h_o5 h=>Rq Y (ZlK (m := o4) (fk := ZS) (fv := FV3) (k := x2) (z0 := 0) (ov Y) (ov Y) Zg8 Zk4 Y (fun _=>.aggB Y) (J8 ZmB Y) (fun _ _=>Y) h_o5)<|Rm Y<|Rq Y (Zo (ov Y) Y)<|Rq Y (Zo (ov Y) Y)<|Ra Y<|Ra Y<|Za<|K10 0 1 10 12 13 14 15 20 21 22 Y<|Tr<|Rm Y<|Za<|K10 0 1 10 13 14 15 20 21 22 32 Y<|If h Y (fun h=>?_) fun h=>?_
     ·
      refine K0<|Tr<|Ra Y<|Za<|?_
      replace h := lx h ▸ ho2
      replace h := lx h ▸ ho1
      obtain rfl := rt h
      exact Zk<|ZdZ [some 0] Y (.cons (.tmp Y) .nil) (.cons Y (ZD (fk := ZS) (fv := FV3) (m := o4) tZ_60 (fun _=>ZN<|rld Y) fun _=>.ren<|.dat Y) .nil) Y Y<|.dat Y
     ·
      exact Ze<|K9 0 1 10 13 14 15 20 21 22 Y<|Zy<|Rm Y<|Rq Y (Zn (ov Y) Y Y Y Zi0 Y Y)<|Rm Y<|Rx Y (ZgY (m := o4) (fk := ZS) (fv := FV3) (k := x2) (v := owner) (ov Y) (ov Y) (ov Y) Zg8 Zk4 Y fun _=>.aggB Y)<|Za<|K8 0 1 13 14 15 20 21 22 Y<|Zy<|R2 Z5 Y<|Rm Y<|Za<|⟨_, h, ES [some 0] (hhp := .cons Y (ZD (fk := ZS) (fv := FV3) (m := (ZeB kq_layout_bit o4 x2 owner)) tZ_60 (fun _=>ZN<|rld Y) fun _=>.ren<|.dat Y) .nil)⟩
    ·
     refine ZC<|?_
     replace h := lx h ▸ ho2
     exact ⟨_, h, ES [some 0] (hhp := .cons Y (ZD (fk := ZS) (fv := FV3) (m := o4) tZ_60 (fun _=>ZN<|rld Y) fun _=>.ren<|.dat Y) .nil)⟩
   ·
    replace h := elr h
    replace h := t1i h
    exact Zy<|R2 Z5 Y<|Rm Y<|Za<|⟨_, h, ES [some 0] (hhp := .cons Y (ZD (fk := ZS) (fv := FV3) (m := o3) tZ_60 (fun _=>ZN<|rld Y) fun _=>.ren<|.dat Y) .nil)⟩
  ·
   refine ZC<|?_
   replace h := lx h ▸ ho1
   exact ⟨_, h, ES [some 0] (hhp := .cons Y (ZD (fk := ZS) (fv := FV3) (m := o2) tZ_60 (fun _=>ZN<|rld Y) fun _=>.ren<|.dat Y) .nil)⟩
 ·
  replace h := elr h
  replace h := t1i h
  refine Tr<|Ra Y<|Za<|?_
  obtain rfl := rt h
  exact Zk<|ZdZ [some 0] Y (.cons (.tmp Y) .nil) (.cons Y (ZD (fk := ZS) (fv := FV3) (m := o) tZ_60 (fun _=>ZN<|rld Y) fun _=>.ren<|.dat Y) .nil) Y Y<|.dat Y
theorem Zb2 {p : api_Param} {r : Int} (h : Qv p = some r) :
 CSpec Try.prog gl0 29 [.agg [.str p.Name, .int .i64 p.Kind, .sl 64 (List.map R64 p.Parts), .int .i64 p.First, .int .i64 p.Every, .int .i64 p.Times, .int .i64 p.Step, .sl 9 (List.map R9 p.Names)]] (.int .i64 r) := by
 unfold Qv at h
 replace h := Qf h
 refine So Try.func29 Y fun w0 A=>Tr<|Rq Y (ZY (cva<|ov Y) Y tZ_44 Y)<|Ra Y<|Za<|Zl<|K1 1 Y<|Tr<|Rq Y (Zd (ov Y) Zch)<|Rq Y (Zc (ov Y) tS9 Y)<|bE h fun y h_y h=>Rq Y (Zr (Zc3 h_y)<|.cons (ov Y) (.b Y) .nil)<|R1 Xy Y<|Za<|K2 1 12 Y<|If h Y (fun h=>?_) fun h=>?_
 ·
  refine K0<|Tr<|Ra Y<|Za<|?_
  obtain rfl := rt h
  exact Zk (Zp Y (.one<|rb Y))
 ·
  refine Ze<|Zl<|K1 1 Y<|Tr<|Rq Y (Zd (ov Y) ZaR)<|Rq Y (Zc (ov Y) tS3 Y)<|bE h fun y2 h_y2 h=>Rq Y (Zr (Qe h_y2)<|.cons (ov Y) (.b Y)<|.cons (ov Y) (.b Y)<|.cons (ov Y) (.b Y) .nil)<|R1 Xy Y<|Za<|K2 1 16 Y<|If h Y (fun h=>?_) fun h=>?_
  ·
   refine K0<|Tr<|Ra Y<|Za<|?_
   obtain rfl := rt h
   exact Zk (Zp Y (.one<|rb Y))
  ·
   refine Ze<|Zl<|K1 1 Y<|Tr<|Rq Y (Zj (ov Y) Zw Y Y)<|bE h fun y3 h_y3 h=>Rq Y (Zr (ZdT h_y3)<|.cons (ov Y) (.aggB Y) .nil)<|Ra Y<|Za<|K2 1 3 Y<|Tr<|Rm Y<|R2 Qp Y<|Za<|K3 1 3 20 Y<|If h Y (fun h=>?_) fun h=>?_
   ·
    refine K1 3 Y<|Tr<|Rm Y<|Ra Y<|Za<|?_
    obtain rfl := rt h
    exact Zk (Zp Y (.one<|rb Y))
   ·
    refine Ze<|Zl<|K1 1 Y<|Tr<|Rq Y (Zj (ov Y) Zw Y Y)<|bE h fun y4 h_y4 h=>Rq Y (Zr (Zd6 h_y4)<|.cons (ov Y) (.aggB Y) .nil)<|Ra Y<|Za<|K2 1 4 Y<|Tr<|Rm Y<|R2 Qp Y<|Za<|K3 1 4 25 Y<|If h Y (fun h=>?_) fun h=>?_
    ·
     refine K1 4 Y<|Tr<|Rm Y<|Ra Y<|Za<|?_
     obtain rfl := rt h
     exact Zk (Zp Y (.one<|rb Y))
    ·
     refine Ze<|K1 1 Y<|Tr<|Rx Y (ZaZ 0 Y Zg8)<|Ra Y<|Za<|K2 1 5 Y<|Tr<|Rq Y (Zj (ov Y) Zw Y Y)<|bE h fun y5 h_y5 h=>Rq Y (Zr (Zbq h_y5)<|.cons (ov Y) (.b Y)<|.cons (ov Y) (.aggB Y) .nil)<|Ra Y<|Za<|J0 (fun j => (.inr j)) ⟨[(6, .sl 34 (List.map R34 y5))], []⟩ h (fun h=>?_) fun h=>?_
     ·
      refine K2 5 6 Y<|Tr<|Rm Y<|Rl tZ_34 Zb6 Y<|Rm Y<|Za<|Zh<|?_
      obtain ⟨r1, hl1, ho1⟩ := QA h
      refine L2 (fun taken i=>⟨[(5, .mref 0 1), (6, .sl 34 (List.map R34 y5)), (30, .sl 34 (List.map R34 y5)), (31, .int .i64 (y5.length : Int)), (32, .int .i64 i)], [some ⟨60, [[.mcon (List.map (ZZ ZS FV3) taken)]]⟩]⟩) hl1 (ES [some 0] (hhp := .cons Y (ZD (fk := ZS) (fv := FV3) (m := ([] : List (layout_bit × Int))) tZ_60 (fun _=>ZN<|rld Y) fun _=>.ren<|.dat Y) .nil)) fun n1 taken i h=>?_
      unfold Z8 at h
      refine Tr<|R2 ZM Y<|Za<|Zl<|If h Y (fun h=>?_) fun h=>?_
      ·
       refine Ze<|Zl<|Zh<|K5 5 6 30 31 32 Y<|Tr<|bE h fun x h_x h=>Rq Y (ZE (ov Y) (ov Y) Zb6 h_x)<|Rq Y (Zj (ov Y) Zdn Y Y)<|Rx Y (Zs (row := [_, _, _, _]) 1 Y ZgJ Y tZ_34)<|Rx Y (Zg (ov Y) (ov Y) (Zf Zdn Y) Y Y Y (Nat.le_of_ble_eq_true Y) (Zb Y) Y)<|Za<|K6 5 6 8 30 31 32 Y<|Tr<|Rm Y<|Rq Y (Zi (ov Y) Y Y ZcX)<|Rq Y (Zm (ov Y) Y Y Y Zhe Y)<|bE h fun y6 h_y6 h=>Rx Y (QS [0] (JV h_y6) (.cons (ov Y) (.mref _ Y)<|.cons (ov Y) (.dat Y)<|.cons (ov Y) (.dat Y) .nil) (.cons Y (ZD (fk := ZS) (fv := FV3) (m := taken) tZ_60 (fun _=>ZN<|rld Y) fun _=>.ren<|.dat Y) .nil) Y (.lent 0 (.inl Y) Y (ZD (fk := ZS) (fv := FV3) (m := y6.2) tZ_60 (fun _=>ZN<|rld Y) fun _=>.ren<|.dat Y)<|.keep Y Y .nil) Y Y<|.dat Y)<|R1 Xy Y<|Za<|K6 5 6 30 31 32 40 Y<|If h Y (fun h=>?_) fun h=>?_
       ·
        refine K0<|Tr<|Ra Y<|Za<|?_
        replace h := lx h ▸ ho1
        obtain rfl := rt h
        exact Zk (Zp Y (.one<|rb Y))
       ·
        exact Ze<|K5 5 6 30 31 32 Y<|Zy<|R2 Z5 Y<|Rm Y<|Za<|⟨_, h, ES [some 0] (hhp := .cons Y (ZD (fk := ZS) (fv := FV3) (m := y6.2) tZ_60 (fun _=>ZN<|rld Y) fun _=>.ren<|.dat Y) .nil)⟩
      ·
       refine ZC<|?_
       replace h := lx h ▸ ho1
       exact ⟨(), h, ES []⟩
     ·
      replace h := elr h
      replace h := t0i h
      refine Zl<|Tr<|Rm Y<|Rl tZ_34 Zb6 Y<|R2 QZ Y<|Za<|K1 44 Y<|If h Y (fun h=>?_) fun h=>?_
      ·
       refine K0<|Tr<|Ra Y<|Za<|?_
       obtain rfl := rt h
       exact Zk (Zp Y (.one<|rb Y))
      ·
       refine Ze<|K0<|Tr<|Ra Y<|Za<|?_
       obtain rfl := rt h
       exact Zk (Zp Y (.one<|rb Y))
theorem JR {s : List api_Param} {f : api_Param → Option Bool} {r : Int} {f_f : FuncId} {f_c : List AV} (f_d : f_c.all datB = true) (f_h : ∀ (z0 : api_Param) z, f z0 = some z → CSpec Try.prog gl0 f_f ([.agg [.str z0.Name, .int .i64 z0.Kind, .sl 64 (List.map R64 z0.Parts), .int .i64 z0.First, .int .i64 z0.Every, .int .i64 z0.Times, .int .i64 z0.Step, .sl 9 (List.map R9 z0.Names)]] ++ f_c) (.bool z)) (h : ZI s f = some r) :
 CSpec Try.prog gl0 56 [.sl 44 (List.map R44 s), .fn f_f f_c] (.int .i64 r) := by
 unfold ZI at h
 replace h := Qf h
 refine So Try.func56 Y fun w0 A=>Tr<|Ra Y<|Za<|J0 (fun j => (.inr j)) ⟨[], []⟩ h (fun h=>?_) fun h=>?_
 ·
  refine K2 0 1 Y<|Tr<|Rm Y<|Rl tZ_44 Qy Y<|Rm Y<|Za<|Zh<|?_
  obtain ⟨r1, hl1, ho1⟩ := QA h
  refine L1 (fun i=>⟨[(0, .sl 44 (List.map R44 s)), (1, .fn f_f f_c), (7, .int .i64 (s.length : Int)), (8, .int .i64 i)], []⟩) hl1 (ES []<|sd 0 Y Y<|sr 1 Y (rFn<|rld f_d)<|sd 7 Y Y<|sd 8 Y Y sn) fun n1 i h=>?_
  unfold Zx at h
  refine Tr<|R2 ZM Y<|Za<|Zl<|If h Y (fun h=>?_) fun h=>?_
  ·
   refine Ze<|Zl<|Zh<|K4 0 1 7 8 Y<|Tr<|Rm Y<|Ra Y<|Za<|K5 0 1 5 7 8 Y<|Tr<|Rm Y<|Rm Y<|Rm Y<|bE h fun x h_x h=>Rq Y (ZE (ov Y) (ov Y) Qy h_x)<|Rq Y (Zj (ov Y) Zw Y Y)<|bE h fun y h_y h=>Rq Y (JP (ov Y) f_d (f_h _ _ h_y)<|.cons (ov Y) (.aggB Y) .nil)<|Za<|K6 0 1 5 7 8 16 Y<|If h Y (fun h=>?_) fun h=>?_
   ·
    refine K1 5 Y<|Tr<|Rm Y<|Ra Y<|Za<|?_
    replace h := lx h ▸ ho1
    obtain rfl := rt h
    exact Zk (Zp Y (.one<|rb Y))
   ·
    exact Ze<|K4 0 1 7 8 Y<|Zy<|R2 Z5 Y<|Rm Y<|Za<|⟨_, h, ES []<|sd 0 Y Y<|sr 1 Y (rFn<|rld f_d)<|sd 7 Y Y<|sd 8 Y Y sn⟩
  ·
   refine ZC<|?_
   replace h := lx h ▸ ho1
   exact ⟨(), h, ES []⟩
 ·
  replace h := elr h
  replace h := t0i h
  refine Tr<|Ra Y<|Za<|?_
  obtain rfl := rt h
  exact Zk (Zp Y (.one<|rb Y))
theorem QQ {s : List api_Param} {f : api_Param → Option Bool} {r : Bool} {f_f : FuncId} {f_c : List AV} (f_d : f_c.all datB = true) (f_h : ∀ (z0 : api_Param) z, f z0 = some z → CSpec Try.prog gl0 f_f ([.agg [.str z0.Name, .int .i64 z0.Kind, .sl 64 (List.map R64 z0.Parts), .int .i64 z0.First, .int .i64 z0.Every, .int .i64 z0.Times, .int .i64 z0.Step, .sl 9 (List.map R9 z0.Names)]] ++ f_c) (.bool z)) (h : Zt s f = some r) :
 CSpec Try.prog gl0 30 [.sl 44 (List.map R44 s), .fn f_f f_c] (.bool r) := by
 unfold Zt at h
 replace h := Qf h
 refine So Try.func30 Y fun w0 A=>Tr<|Ra Y<|Za<|Tr<|Rm Y<|Rm Y<|bE h fun y h_y h=>Rq Y (Zr (JR f_d f_h h_y)<|.cons (ov Y) (.b Y)<|.cons (ov Y) (Dat.fnC<|.refl fun x hx => .b<|List.all_eq_true.1 f_d x hx) .nil)<|R2 ZcB Y<|Ra Y<|Za<|?_
 obtain rfl := rt h
 exact Zk (Zp Y (.one<|rb Y))
theorem ZfO {q : api_Param} {c0 : api_Param} {r : Bool} (h : Jg q c0 = some r) :
 CSpec Try.prog gl0 38 [.agg [.str q.Name, .int .i64 q.Kind, .sl 64 (List.map R64 q.Parts), .int .i64 q.First, .int .i64 q.Every, .int .i64 q.Times, .int .i64 q.Step, .sl 9 (List.map R9 q.Names)], .rp [.str c0.Name, .int .i64 c0.Kind, .sl 64 (List.map R64 c0.Parts), .int .i64 c0.First, .int .i64 c0.Every, .int .i64 c0.Times, .int .i64 c0.Step, .sl 9 (List.map R9 c0.Names)] 0] (.bool r) := by
 unfold Jg at h
 replace h := Qf h
 refine So Try.func38 Y fun w0 A=>Tr<|Rq Y (ZY (cva<|ov Y) Y tZ_44 Y)<|Ra Y<|Za<|K3 1 2 3 Y<|Tr<|Rq Y (Zd (ov Y) Zch)<|Rq Y (Zc (ov Y) tS9 Y)<|Rq Y (Zd (ov Y) Zch)<|Rq Y (Zc (ov Y) tS9 Y)<|R2 Zcz Y<|Ra Y<|Za<|?_
 obtain rfl := rt h
 exact Zk (Zp Y (.one<|rb Y))
theorem Xq {m : api_Map} {r : Int × Int} (h : QG m = some r) :
 CSpec Try.prog gl0 18 [.agg [.int .i64 m.Version, .sl 44 (List.map R44 m.Params)]] (.tuple [.int .i64 r.1, .int .i64 r.2]) := by
 unfold QG at h
 replace h := Qf h
 refine So Try.func18 Y fun w0 A=>Tr<|Rq Y (ZY (cva<|ov Y) Y tZ_24 Y)<|Ra Y<|Ra Y<|Za<|Zl<|K1 1 Y<|Tr<|Rq Y (Zd (ov Y) ZhL)<|Rq Y (Zc (ov Y) tS3 Y)<|bE h fun y h_y h=>Rq Y (Zr (Qe h_y)<|.cons (ov Y) (.b Y)<|.cons (ov Y) (.b Y)<|.cons (ov Y) (.b Y) .nil)<|R1 Xy Y<|Za<|K2 1 18 Y<|If h Y (fun h=>?_) fun h=>?_
 ·
  refine K0<|Tr<|Ra Y<|Ra Y<|Za<|?_
  obtain rfl := rt h
  exact Zk (Zp Y (.two (rb Y)<|rb Y))
 ·
  refine Ze<|Zl<|K1 1 Y<|Tr<|Rq Y (Zd (ov Y) QC)<|Rq Y (Zc (ov Y) J5 Y)<|Rl tZ_44 Qy Y<|R2 JC Y<|Za<|K2 1 22 Y<|If h Y (fun h=>?_) fun h=>?_
  ·
   refine K0<|Tr<|Ra Y<|Ra Y<|Za<|?_
   obtain rfl := rt h
   exact Zk (Zp Y (.two (rb Y)<|rb Y))
  ·
   refine Ze<|J0 (fun j => (.inr j)) ⟨[(1, .rp [.int .i64 m.Version, .sl 44 (List.map R44 m.Params)] 0)], []⟩ h (fun h=>?_) fun h=>?_
   ·
    refine K1 1 Y<|Tr<|Rq Y (Zd (ov Y) QC)<|Rq Y (Zc (ov Y) J5 Y)<|Rl tZ_44 Qy Y<|Rm Y<|Za<|Zh<|?_
    obtain ⟨r1, hl1, ho1⟩ := QA h
    refine L1 (fun i=>⟨[(1, .rp [.int .i64 m.Version, .sl 44 (List.map R44 m.Params)] 0), (24, .sl 44 (List.map R44 m.Params)), (25, .int .i64 (m.Params.length : Int)), (26, .int .i64 i)], []⟩) hl1 (ES []) fun n1 i h=>?_
    unfold Xn at h
    refine Tr<|R2 ZM Y<|Za<|Zl<|If h Y (fun h=>?_) fun h=>?_
    ·
     refine Ze<|Zl<|Zh<|K4 1 24 25 26 Y<|Tr<|Rm Y<|bE h fun x h_x h=>Rq Y (ZE (ov Y) (ov Y) Qy h_x)<|Rq Y (Zj (ov Y) Zw Y Y)<|Rx Y (Zs (row := [_, _, _, _, _, _, _, _]) 0 Y JZ Y tZ_44)<|Ra Y<|Rx Y (Zg (ov Y) (ov Y) (Zf Zw Y) Y Y Y (Nat.le_of_ble_eq_true Y) (Zb Y) Y)<|Za<|Zl<|K6 1 4 5 24 25 26 Y<|Tr<|Rq Y (Zn (ov Y) Y Y Y Zw Y Y)<|bE h fun y2 h_y2 h=>Rq Y (Zr (Zb2 h_y2)<|.cons (ov Y) (.aggB Y) .nil)<|Ra Y<|Za<|K7 1 4 5 6 24 25 26 Y<|Tr<|Rm Y<|R2 Qp Y<|Za<|K8 1 4 5 6 24 25 26 34 Y<|If h Y (fun h=>?_) fun h=>?_
     ·
      refine K2 4 6 Y<|Tr<|Rm Y<|Rm Y<|Ra Y<|Ra Y<|Za<|?_
      replace h := lx h ▸ ho1
      obtain rfl := rt h
      exact Zk (Zp Y (.two (rb Y)<|rb Y))
     ·
      refine Ze<|K6 1 4 5 24 25 26 Y<|Tr<|Rq Y (Zd (ov Y) QC)<|Rq Y (Zc (ov Y) J5 Y)<|Rm Y<|bE h fun l h_l h=>Rq Y (Zff (ov Y) Qy on (oi<|ov Y) h_l)<|ZeH (Ent.sel [none] (sd 1 Y Y<|sd 4 Y Y<|sr 5 Y (.frp ⟨Y, ⟨_, Y⟩, Y, Y⟩)<|sd 24 Y Y<|sd 25 Y Y<|sd 26 Y Y<|sd 37 Y Y<|sd 38 Y Y<|sd 39 Y Y<|sd 40 Y Y sn) (.row 44 .nil) Y Y)<|Rq Y (QI<|.cons (ov Y) .nil)<|bE h fun y3 h_y3 h=>Rq Y (Zr (QQ Y (fun z0 _ hz=>ZfO hz) h_y3)<|.cons (ov Y) (.b Y)<|.cons (ov Y) (.fnC<|.cons (.b Y) .nil) .nil)<|Za<|K6 1 4 24 25 26 42 Y<|If h Y (fun h=>?_) fun h=>?_
      ·
       refine K1 4 Y<|Tr<|Rm Y<|Ra Y<|Ra Y<|Za<|?_
       replace h := lx h ▸ ho1
       obtain rfl := rt h
       exact Zk (Zp Y (.two (rb Y)<|rb Y))
      ·
       exact Ze<|K4 1 24 25 26 Y<|Zy<|R2 Z5 Y<|Rm Y<|Za<|⟨_, h, ES []⟩
    ·
     refine ZC<|?_
     replace h := lx h ▸ ho1
     exact ⟨(), h, ES []⟩
   ·
    replace h := elr h
    replace h := t0i h
    refine Tr<|Ra Y<|Za<|J0 (fun j => (.inr j)) ⟨[(1, .rp [.int .i64 m.Version, .sl 44 (List.map R44 m.Params)] 0)], []⟩ h (fun h=>?_) fun h=>?_
    ·
     refine Tr<|Rq Y (Zd (ov Y) QC)<|Rq Y (Zc (ov Y) J5 Y)<|Rl tZ_44 Qy Y<|Rm Y<|Za<|Zh<|?_
     obtain ⟨r2, hl2, ho2⟩ := QA h
     refine L2 (fun cells i2=>⟨[(1, .rp [.int .i64 m.Version, .sl 44 (List.map R44 m.Params)] 0), (7, .int .i64 cells), (46, .sl 44 (List.map R44 m.Params)), (47, .int .i64 (m.Params.length : Int)), (48, .int .i64 i2)], []⟩) hl2 (ES []) fun n2 cells i2 h=>?_
     unfold Q1 at h
     refine Tr<|R2 ZM Y<|Za<|Zl<|If h Y (fun h=>?_) fun h=>?_
     ·
      refine Ze<|Zl<|Zh<|K5 1 7 46 47 48 Y<|Tr<|Rm Y<|bE h fun x2 h_x2 h=>Rq Y (ZE (ov Y) (ov Y) Qy h_x2)<|Rq Y (Zj (ov Y) Zw Y Y)<|Rx Y (Zs (row := [_, _, _, _, _, _, _, _]) 0 Y JZ Y tZ_44)<|Ra Y<|Rx Y (Zg (ov Y) (ov Y) (Zf Zw Y) Y Y Y (Nat.le_of_ble_eq_true Y) (Zb Y) Y)<|Za<|K7 1 7 8 9 46 47 48 Y<|Td md0<|D1 0 Zz Y<|Dq 1 Y (Zn (ov Y) Y Y Y Zw Y Y)<|bE h fun y4 h_y4 h=>Dq 2 Y (Zr (ZbB h_y4)<|.cons (ov Y) (.aggB Y) .nil)<|Dq 3 Y (ZeJ (ZV (ov Y) tZ_3) ZaS<|ZbU _ _)<|Dq 4 Y (Zi (ov Y) Y Y ZaQ)<|Dq 5 Y (Zm (ov Y) Y Y Y tS3 Y)<|D2 6 Zhc Y<|D2 7 Z5 Y<|D1 8 Jz Y<|Dd<|K6 1 7 8 46 47 48 Y<|Tr<|Rm Y<|R2 JC Y<|Za<|K7 1 7 8 46 47 48 62 Y<|If h Y (fun h=>?_) fun h=>?_
      ·
       refine K1 8 Y<|Tr<|Rm Y<|Ra Y<|Ra Y<|Za<|?_
       replace h := lx h ▸ ho2
       obtain rfl := rt h
       exact Zk (Zp Y (.two (rb Y)<|rb Y))
      ·
       exact Ze<|K5 1 7 46 47 48 Y<|Zy<|R2 Z5 Y<|Rm Y<|Za<|⟨_, h, ES []⟩
     ·
      refine ZC<|?_
      replace h := lx h ▸ ho2
      exact ⟨(), h, ES []⟩
    ·
     replace h := elr h
     replace h := t0i h
     refine Tr<|Rx Y (ZaZ 0 Y Zg8)<|Ra Y<|Za<|J0 (fun j => (.inr j)) ⟨[], []⟩ h (fun h=>?_) fun h=>?_
     ·
      refine K2 1 10 Y<|Tr<|Rq Y (Zd (ov Y) QC)<|Rq Y (Zc (ov Y) J5 Y)<|Rl tZ_44 Qy Y<|Rm Y<|Za<|Zh<|?_
      obtain ⟨r3, hl3, ho3⟩ := QA h
      refine L2 (fun taken i3=>⟨[(10, .mref 0 1), (67, .sl 44 (List.map R44 m.Params)), (68, .int .i64 (m.Params.length : Int)), (69, .int .i64 i3)], [some ⟨60, [[.mcon (List.map (ZZ ZS FV3) taken)]]⟩]⟩) hl3 (ES [some 0] (hhp := .cons Y (ZD (fk := ZS) (fv := FV3) (m := ([] : List (layout_bit × Int))) tZ_60 (fun _=>ZN<|rld Y) fun _=>.ren<|.dat Y) .nil)) fun n3 taken i3 h=>?_
      unfold QX at h
      refine Tr<|R2 ZM Y<|Za<|Zl<|If h Y (fun h=>?_) fun h=>?_
      ·
       refine Ze<|J1 (fun j => (.inr j)) (fun taken2=>⟨[(10, .mref 0 1), (67, .sl 44 (List.map R44 m.Params)), (68, .int .i64 (m.Params.length : Int)), (69, .int .i64 i3)], [some ⟨60, [[.mcon (List.map (ZZ ZS FV3) taken2)]]⟩]⟩) h (fun h=>?_) fun taken2 h=>?_
       ·
        refine Zh<|K4 10 67 68 69 Y<|Tr<|Rm Y<|bE h fun x3 h_x3 h=>Rq Y (ZE (ov Y) (ov Y) Qy h_x3)<|Rq Y (Zj (ov Y) Zw Y Y)<|Rx Y (Zs (row := [_, _, _, _, _, _, _, _]) 1 Y JZ Y tZ_44)<|Ra Y<|Rx Y (Zg (ov Y) (ov Y) (Zf Zw Y) Y Y Y (Nat.le_of_ble_eq_true Y) (Zb Y) Y)<|Za<|K6 10 11 12 67 68 69 Y<|Tr<|Rm Y<|Rq Y (Zn (ov Y) Y Y Y Zw Y Y)<|bE h fun y5 h_y5 h=>Rq Y (Zr (Zbq h_y5)<|.cons (ov Y) (.b Y)<|.cons (ov Y) (.aggB Y) .nil)<|Rl tZ_34 Zb6 Y<|Rm Y<|Za<|Zh<|?_
        obtain ⟨r4, hl4, ho4⟩ := QA h
        refine L2 (fun taken3 i4=>⟨[(10, .mref 0 1), (11, .int .i64 i3), (67, .sl 44 (List.map R44 m.Params)), (68, .int .i64 (m.Params.length : Int)), (69, .int .i64 i3), (76, .sl 34 (List.map R34 y5)), (77, .int .i64 (y5.length : Int)), (78, .int .i64 i4)], [some ⟨60, [[.mcon (List.map (ZZ ZS FV3) taken3)]]⟩]⟩) hl4 (ES [some 0] (hhp := .cons Y (ZD (fk := ZS) (fv := FV3) (m := taken) tZ_60 (fun _=>ZN<|rld Y) fun _=>.ren<|.dat Y) .nil)) fun n4 taken3 i4 h=>?_
        unfold Q2 at h
        refine Tr<|R2 ZM Y<|Za<|Zl<|If h Y (fun h=>?_) fun h=>?_
        ·
         refine Ze<|Zl<|Zh<|K8 10 11 67 68 69 76 77 78 Y<|Tr<|bE h fun x4 h_x4 h=>Rq Y (ZE (ov Y) (ov Y) Zb6 h_x4)<|Rq Y (Zj (ov Y) Zdn Y Y)<|Rx Y (Zs (row := [_, _, _, _]) 1 Y ZgJ Y tZ_34)<|Rx Y (Zg (ov Y) (ov Y) (Zf Zdn Y) Y Y Y (Nat.le_of_ble_eq_true Y) (Zb Y) Y)<|Za<|K9 10 11 14 67 68 69 76 77 78 Y<|Tr<|Rm Y<|Rm Y<|Rq Y (Zi (ov Y) Y Y ZcX)<|Rq Y (Zm (ov Y) Y Y Y Zhe Y)<|bE h fun y6 h_y6 h=>Rx Y (QS [0] (JV h_y6) (.cons (ov Y) (.mref _ Y)<|.cons (ov Y) (.dat Y)<|.cons (ov Y) (.dat Y) .nil) (.cons Y (ZD (fk := ZS) (fv := FV3) (m := taken3) tZ_60 (fun _=>ZN<|rld Y) fun _=>.ren<|.dat Y) .nil) Y (.lent 0 (.inl Y) Y (ZD (fk := ZS) (fv := FV3) (m := y6.2) tZ_60 (fun _=>ZN<|rld Y) fun _=>.ren<|.dat Y)<|.keep Y Y .nil) Y Y<|.dat Y)<|R1 Xy Y<|Za<|K9 10 11 67 68 69 76 77 78 87 Y<|If h Y (fun h=>?_) fun h=>?_
         ·
          refine K1 11 Y<|Tr<|Rm Y<|Ra Y<|Ra Y<|Za<|?_
          replace h := lx h ▸ ho4
          replace h := lx h ▸ ho3
          obtain rfl := rt h
          exact Zk (Zp Y (.two (rb Y)<|rb Y))
         ·
          exact Ze<|K8 10 11 67 68 69 76 77 78 Y<|Zy<|R2 Z5 Y<|Rm Y<|Za<|⟨_, h, ES [some 0] (hhp := .cons Y (ZD (fk := ZS) (fv := FV3) (m := y6.2) tZ_60 (fun _=>ZN<|rld Y) fun _=>.ren<|.dat Y) .nil)⟩
        ·
         refine ZC<|?_
         replace h := lx h ▸ ho4
         exact ⟨_, h, ES [some 0] (hhp := .cons Y (ZD (fk := ZS) (fv := FV3) (m := taken3) tZ_60 (fun _=>ZN<|rld Y) fun _=>.ren<|.dat Y) .nil)⟩
       ·
        replace h := elr h
        replace h := t1i h
        exact Zy<|R2 Z5 Y<|Rm Y<|Za<|⟨_, h, ES [some 0] (hhp := .cons Y (ZD (fk := ZS) (fv := FV3) (m := taken2) tZ_60 (fun _=>ZN<|rld Y) fun _=>.ren<|.dat Y) .nil)⟩
      ·
       refine ZC<|?_
       replace h := lx h ▸ ho3
       exact ⟨(), h, ES []⟩
     ·
      replace h := elr h
      replace h := t0i h
      refine Tr<|Ra Y<|Ra Y<|Za<|?_
      obtain rfl := rt h
      exact Zk (Zp Y (.two (rb Y)<|rb Y))
theorem Zgo {q : api_Param} {c0 : api_Param} {r : Bool} (h : Zcm q c0 = some r) :
 CSpec Try.prog gl0 31 [.agg [.str q.Name, .int .i64 q.Kind, .sl 64 (List.map R64 q.Parts), .int .i64 q.First, .int .i64 q.Every, .int .i64 q.Times, .int .i64 q.Step, .sl 9 (List.map R9 q.Names)], .rp [.str c0.Name, .int .i64 c0.Kind, .sl 64 (List.map R64 c0.Parts), .int .i64 c0.First, .int .i64 c0.Every, .int .i64 c0.Times, .int .i64 c0.Step, .sl 9 (List.map R9 c0.Names)] 0] (.bool r) := by
 unfold Zcm at h
 replace h := Qf h
 refine So Try.func31 Y fun w0 A=>Tr<|Rq Y (ZY (cva<|ov Y) Y tZ_44 Y)<|Ra Y<|Za<|K3 1 2 3 Y<|Tr<|Rq Y (Zd (ov Y) Zch)<|Rq Y (Zc (ov Y) tS9 Y)<|Rq Y (Zd (ov Y) Zch)<|Rq Y (Zc (ov Y) tS9 Y)<|R2 Zcz Y<|Ra Y<|Za<|?_
 obtain rfl := rt h
 exact Zk (Zp Y (.one<|rb Y))
theorem Zfi {xs r : List api_Part} (h : ZeI xs = some r) :
 GSpec Try.prog gl0 57 [.sl 64 (List.map R64 xs)] [] (.own 0 r.length) [some ⟨64, List.map R64 r⟩] := by
 have h2 : app [] xs = some r := h
 refine ZaB (by kernel_rfl) Try.func57 Y Y<|?_
 intro w0 A W φ0
 refine Tr<|Ra Y<|Za<|Zl<|Zl<|Zy<|Rm Y<|ZhU (ov Y) Zmc Y fun b hb=>?_
 refine Za<|Zh3 Y (fun hb2=>?_) fun hb2=>?_
 ·
  obtain rfl : xs = [] := by simpa using hb hb2
  obtain rfl : r = [] := by simpa [app, apz] using h2.symm
  exact Tr<|Ra Y<|Za<|Zk<|ZdZ [none] Y (.cons (.tmp Y) .nil) (.row 64 .nil) Y Y<|.row Y
 ·
  exact Ze<|Tr<|Rx Y (ZdX (r := 0) (xs := []) (f := R64) Y Xs .nil Y Y Y)<|Rm Y<|Rx Y (Xj (ov Y) (ZV (ov Y) tZ_64) Xs Y Y (fun _=>Zb Y) Y h2)<|Ra Y<|Za<|Zk<|ZdZ [some 0] Y (.cons (.tmp Y) .nil) (.cons Y (roM D64) .nil) Y Y<|.own _ Y
theorem Zf7 {xs r : List Str} (h : ZeI xs = some r) :
 GSpec Try.prog gl0 58 [.sl 9 (List.map R9 xs)] [] (.own 0 r.length) [some ⟨9, List.map R9 r⟩] := by
 have h2 : app [] xs = some r := h
 refine ZaB (by kernel_rfl) Try.func58 Y Y<|?_
 intro w0 A W φ0
 refine Tr<|Ra Y<|Za<|Zl<|Zl<|Zy<|Rm Y<|ZhU (ov Y) ZlS Y fun b hb=>?_
 refine Za<|Zh3 Y (fun hb2=>?_) fun hb2=>?_
 ·
  obtain rfl : xs = [] := by simpa using hb hb2
  obtain rfl : r = [] := by simpa [app, apz] using h2.symm
  exact Tr<|Ra Y<|Za<|Zk<|ZdZ [none] Y (.cons (.tmp Y) .nil) (.row 9 .nil) Y Y<|.row Y
 ·
  exact Ze<|Tr<|Rx Y (ZdX (r := 0) (xs := []) (f := R9) Y ZbX .nil Y Y Y)<|Rm Y<|Rx Y (Xj (ov Y) (ZV (ov Y) tZ_9) ZbX Y Y (fun _=>Zb Y) Y h2)<|Ra Y<|Za<|Zk<|ZdZ [some 0] Y (.cons (.tmp Y) .nil) (.cons Y (roM D9) .nil) Y Y<|.own _ Y
theorem ZdH {p : api_Param} {r : api_Param} (h : Ji p = some r) :
 GSpec Try.prog gl0 32 [.agg [.str p.Name, .int .i64 p.Kind, .sl 64 (List.map R64 p.Parts), .int .i64 p.First, .int .i64 p.Every, .int .i64 p.Times, .int .i64 p.Step, .sl 9 (List.map R9 p.Names)]] [] (.agg [.str r.Name, .int .i64 r.Kind, .own 0 r.Parts.length, .int .i64 r.First, .int .i64 r.Every, .int .i64 r.Times, .int .i64 r.Step, .own 1 r.Names.length]) [some ⟨64, List.map R64 r.Parts⟩, some ⟨9, List.map R9 r.Names⟩] := by
 unfold Ji at h
 replace h := Qf h
 refine ZaB (by kernel_rfl) Try.func32 Y Y<|?_
 intro w0 A W φ0
 refine Tr<|Rx Y (Zic 0 Y (ov Y) Zw Y)<|Rx Y (Zs (row := [_, _, _, _, _, _, _, _]) 1 Y JZ Y tZ_44)<|Za<|K2 1 2 Y<|Td ⟨true, true, [some ⟨44, [[.str p.Name, .int .i64 p.Kind, .sl 64 (List.map R64 p.Parts), .int .i64 p.First, .int .i64 p.Every, .int .i64 p.Times, .int .i64 p.Step, .sl 9 (List.map R9 p.Names)]]⟩, some ⟨44, [[.str [], .int .i64 0, .nils, .int .i64 0, .int .i64 0, .int .i64 0, .int .i64 0, .nils]]⟩], [], [0]⟩<|Dq 0 Y (Zi (ov Y) Y Y Q4)<|Dq 1 Y (Zm (ov Y) Y Y Y Zbv Y)<|ZcW 3 _ Y (by kernel_rfl) Y Y Y (EL.ext<|.wr Y Y Y<|.keep .nil) (fun hp' hx=>exW (r := 0) hx Y fun _ ho hn => Zi (ov Y) ho hn JI)<|bE h fun y h_y h=>ZhK 4 2 Y Y (by kernel_rfl) Y Y Y Y (fun h=>by cases h) (fun _=>by exact EL.ext (.wr rfl rfl rfl <| .keep <| .nil)) (Zm (ov Y) Y Y Y Zdj Y) (QS [] (Zfi h_y) (.cons (ov Y) (.dat Y) .nil) .nil Y (.keep Y Y<|.keep Y Y<|.lent 0 (.inr ⟨Nat.le_of_ble_eq_true Y, Y⟩) Y (roM D64) .nil) Y Y<|.own _<|.inr ⟨Nat.le_of_ble_eq_true Y, Y⟩) ?_ ?_
 ·
  refine QR 2 _ _ Y (by kernel_rfl) Y Y (fun h=>by cases h) (fun _=>by exact EL.ext (.wr rfl rfl rfl <| .keep <| .nil)) (QS [] (Zfi h_y) (.cons (ov Y) (.dat Y) .nil) .nil Y (.keep Y Y<|.keep Y Y<|.lent 0 (.inr ⟨Nat.le_of_ble_eq_true Y, Y⟩) Y (roM D64) .nil) Y Y<|.own _<|.inr ⟨Nat.le_of_ble_eq_true Y, Y⟩)<|ZcW 6 _ Y (by kernel_rfl) Y Y Y (EL.ext<|.wr Y Y Y<|.keep .nil) (fun hp' hx=>exW (r := 0) hx Y fun _ ho hn => Zi (ov Y) ho hn Q4)<|bE h fun y2 h_y2 h=>QR 5 _ _ Y (by kernel_rfl) Y Y (fun h=>by cases h) (fun _=>by exact EL.ext (.wr rfl rfl rfl <| .keep <| .nil)) (QS [] (Zf7 h_y2) (.cons (ov Y) (.dat Y) .nil) .nil Y (.keep Y Y<|.keep Y Y<|.keep Y Y<|.lent 0 (.inr ⟨Nat.le_of_ble_eq_true Y, Y⟩) Y (roM D9) .nil) Y Y<|.own _<|.inr ⟨Nat.le_of_ble_eq_true Y, Y⟩)<|QR 7 _ _ Y (by kernel_rfl) Y Y (fun h=>by cases h) (fun _=>by exact EL.ext (.wr rfl rfl rfl <| .keep <| .nil)) (Zg (ov Y) (ov Y) (Zv Zbv) Y Y Y (Nat.le_of_ble_eq_true Y) (Zb Y) Y)<|Dq 8 Y (Zi (ov Y) Y Y JI)<|QR 9 _ _ Y (by kernel_rfl) Y Y (fun h=>by cases h) (fun _=>by exact EL.ext (.wr rfl rfl rfl <| .keep <| .nil)) (Zg (ov Y) (ov Y) (Zv Zdj) Y Y Y (Nat.le_of_ble_eq_true Y) (Zb Y) Y)<|Dd<|K2 1 2 Y<|Tr<|Rq Y (Zn (ov Y) Y Y Y Zw Y Y)<|Rx Y (Zg (ov Y) (ov Y) (Zf Zw Y) Y Y Y (Nat.le_of_ble_eq_true Y) (Zb Y) Y)<|Za<|?_
  obtain rfl := rt h
  exact Zk<|ZdZ [some 2, some 3] Y (.cons (.agg Y Y Y Y Zw Y Y) .nil) (.cons Y (roM D64)<|.cons Y (roM D9) .nil) Y Y<|ZN<|rlc (.dat Y)<|rlc (.dat Y)<|rlc (.own _ Y)<|rlc (.dat Y)<|rlc (.dat Y)<|rlc (.dat Y)<|rlc (.dat Y)<|rlc (.own _ Y) rln
 ·
  refine Dq 4 Y (Zm (ov Y) Y Y Y Zdj Y)<|ZcW 6 _ Y (by kernel_rfl) Y Y Y (EL.ext<|.wr Y Y Y<|.keep .nil) (fun hp' hx=>exW (r := 0) hx Y fun _ ho hn => Zi (ov Y) ho hn Q4)<|bE h fun y2 h_y2 h=>QR 5 _ _ Y (by kernel_rfl) Y Y (fun h=>by cases h) (fun _=>by exact EL.ext (.wr rfl rfl rfl <| .keep <| .nil)) (QS [] (Zf7 h_y2) (.cons (ov Y) (.dat Y) .nil) .nil Y (.keep Y Y<|.keep Y Y<|.keep Y Y<|.lent 0 (.inr ⟨Nat.le_of_ble_eq_true Y, Y⟩) Y (roM D9) .nil) Y Y<|.own _<|.inr ⟨Nat.le_of_ble_eq_true Y, Y⟩)<|QR 7 _ _ Y (by kernel_rfl) Y Y (fun h=>by cases h) (fun _=>by exact EL.ext (.wr rfl rfl rfl <| .keep <| .nil)) (Zg (ov Y) (ov Y) (Zv Zbv) Y Y Y (Nat.le_of_ble_eq_true Y) (Zb Y) Y)<|Dq 8 Y (Zi (ov Y) Y Y JI)<|QR 9 _ _ Y (by kernel_rfl) Y Y (fun h=>by cases h) (fun _=>by exact EL.ext (.wr rfl rfl rfl <| .keep <| .nil)) (Zg (ov Y) (ov Y) (Zv Zdj) Y Y Y (Nat.le_of_ble_eq_true Y) (Zb Y) Y)<|Dd<|K2 1 2 Y<|Tr<|Rq Y (Zn (ov Y) Y Y Y Zw Y Y)<|Rx Y (Zg (ov Y) (ov Y) (Zf Zw Y) Y Y Y (Nat.le_of_ble_eq_true Y) (Zb Y) Y)<|Za<|?_
  obtain rfl := rt h
  exact Zk<|ZdZ [some 2, some 3] Y (.cons (.agg Y Y Y Y Zw Y Y) .nil) (.cons Y (roM D64)<|.cons Y (roM D9) .nil) Y Y<|ZN<|rlc (.dat Y)<|rlc (.dat Y)<|rlc (.own _ Y)<|rlc (.dat Y)<|rlc (.dat Y)<|rlc (.dat Y)<|rlc (.dat Y)<|rlc (.own _ Y) rln
theorem Zcb {m : api_Map} {r : (List api_Cell)} (h : Xt m = some r) :
 CSpec Try.prog gl0 23 [.agg [.int .i64 m.Version, .sl 44 (List.map R44 m.Params)]] (.sl 34 (List.map R34 r)) := by
 unfold Xt at h
 replace h := Qf h
 refine So Try.func23 Y fun w0 A=>Tr<|Rq Y (ZY (cva<|ov Y) Y tZ_24 Y)<|Ra Y<|Za<|K1 1 Y<|Tr<|Ra Y<|Za<|I1 (fun out=>⟨[(3, .own 0 out.length)], [some ⟨34, List.map R34 out⟩]⟩) h (fun h=>?_) fun out h=>?_
 ·
  refine Tr<|Rq Y (Zd (ov Y) QC)<|Rq Y (Zc (ov Y) J5 Y)<|Rl tZ_44 Qy Y<|Rm Y<|Za<|Zh<|?_
  obtain ⟨r1, hl1, ho1⟩ := QA h
  refine L2 (fun out2 i=>⟨[(3, .own 0 out2.length), (7, .sl 44 (List.map R44 m.Params)), (8, .int .i64 (m.Params.length : Int)), (9, .int .i64 i)], [some ⟨34, List.map R34 out2⟩]⟩) hl1 (ES [none]) fun n1 out2 i h=>?_
  unfold JA at h
  refine Tr<|R2 ZM Y<|Za<|Zl<|If h Y (fun h=>?_) fun h=>?_
  ·
   exact Ze<|Zl<|Zh<|K4 3 7 8 9 Y<|Tr<|Rm Y<|bE h fun x h_x h=>Rq Y (ZE (ov Y) (ov Y) Qy h_x)<|Rq Y (Zj (ov Y) Zw Y Y)<|Rx Y (Zs (row := [_, _, _, _, _, _, _, _]) 1 Y JZ Y tZ_44)<|Ra Y<|Rx Y (Zg (ov Y) (ov Y) (Zf Zw Y) Y Y Y (Nat.le_of_ble_eq_true Y) (Zb Y) Y)<|Za<|K6 3 4 5 7 8 9 Y<|Zy<|Rm Y<|Rm Y<|Rq Y (Zn (ov Y) Y Y Y Zw Y Y)<|bE h fun y h_y h=>Rq Y (Zr (Zbq h_y)<|.cons (ov Y) (.b Y)<|.cons (ov Y) (.aggB Y) .nil)<|bE h fun l h_l h=>Rx Y (Xj (ov Y) (ZV (ov Y) tZ_34) Zb6 Y Y (fun _=>Zb Y) Y h_l)<|Ra Y<|Za<|K4 3 7 8 9 Y<|Zy<|R2 Z5 Y<|Rm Y<|Za<|⟨_, h, ES [some 0]⟩
  ·
   refine ZC<|?_
   replace h := lx h ▸ ho1
   exact ⟨_, h, ES [some 0]⟩
 ·
  refine Tr<|Rm Y<|Ra Y<|Za<|?_
  obtain rfl := rt h
  exact Zk (Zp Y (.one<|.tmp Y<|View.ownM Y Y D34))
theorem ZeF {l : List api_Cell} {r : (List (layout_bit × Int))} (h : J4 l = some r) :
 GSpec Try.prog gl0 26 [.sl 34 (List.map R34 l)] [] (.mref 0 1) [some ⟨60, [[.mcon (List.map (ZZ ZS FV3) r)]]⟩] := by
 unfold J4 at h
 replace h := Qf h
 refine ZaB (by kernel_rfl) Try.func26 Y Y<|?_
 intro w0 A W φ0
 refine Tr<|Ra Y<|Za<|K1 0 Y<|Tr<|Rx Y (ZaZ 0 Y Zg8)<|Ra Y<|Za<|I1 (fun out=>⟨[(3, .mref 0 1)], [some ⟨60, [[.mcon (List.map (ZZ ZS FV3) out)]]⟩]⟩) h (fun h=>?_) fun out h=>?_
 ·
  refine K2 0 3 Y<|Tr<|Rm Y<|Rl tZ_34 Zb6 Y<|Rm Y<|Za<|Zh<|?_
  obtain ⟨r1, hl1, ho1⟩ := QA h
  refine L2 (fun out2 i=>⟨[(3, .mref 0 1), (7, .sl 34 (List.map R34 l)), (8, .int .i64 (l.length : Int)), (9, .int .i64 i)], [some ⟨60, [[.mcon (List.map (ZZ ZS FV3) out2)]]⟩]⟩) hl1 (ES [some 0] (hhp := .cons Y (ZD (fk := ZS) (fv := FV3) (m := ([] : List (layout_bit × Int))) tZ_60 (fun _=>ZN<|rld Y) fun _=>.ren<|.dat Y) .nil)) fun n1 out2 i h=>?_
  unfold QP at h
  refine Tr<|R2 ZM Y<|Za<|Zl<|If h Y (fun h=>?_) fun h=>?_
  ·
   exact Ze<|Zl<|Zh<|K4 3 7 8 9 Y<|Tr<|Rm Y<|bE h fun x h_x h=>Rq Y (ZE (ov Y) (ov Y) Zb6 h_x)<|Rq Y (Zj (ov Y) Zdn Y Y)<|Rx Y (Zs (row := [_, _, _, _]) 1 Y ZgJ Y tZ_34)<|Ra Y<|Rx Y (Zg (ov Y) (ov Y) (Zf Zdn Y) Y Y Y (Nat.le_of_ble_eq_true Y) (Zb Y) Y)<|Za<|K6 3 4 5 7 8 9 Y<|Zy<|Rm Y<|Rm Y<|Rq Y (Zi (ov Y) Y Y ZcX)<|Rq Y (Zm (ov Y) Y Y Y Zhe Y)<|bE h fun y h_y h=>Rx Y (QS [0] (JV h_y) (.cons (ov Y) (.mref _ Y)<|.cons (ov Y) (.dat Y)<|.cons (ov Y) (.dat Y) .nil) (.cons Y (ZD (fk := ZS) (fv := FV3) (m := out2) tZ_60 (fun _=>ZN<|rld Y) fun _=>.ren<|.dat Y) .nil) Y (.lent 0 (.inl Y) Y (ZD (fk := ZS) (fv := FV3) (m := y.2) tZ_60 (fun _=>ZN<|rld Y) fun _=>.ren<|.dat Y)<|.keep Y Y .nil) Y Y<|.dat Y)<|Za<|K4 3 7 8 9 Y<|Zy<|R2 Z5 Y<|Rm Y<|Za<|⟨_, h, ES [some 0] (hhp := .cons Y (ZD (fk := ZS) (fv := FV3) (m := y.2) tZ_60 (fun _=>ZN<|rld Y) fun _=>.ren<|.dat Y) .nil)⟩
  ·
   refine ZC<|?_
   replace h := lx h ▸ ho1
   exact ⟨_, h, ES [some 0] (hhp := .cons Y (ZD (fk := ZS) (fv := FV3) (m := out2) tZ_60 (fun _=>ZN<|rld Y) fun _=>.ren<|.dat Y) .nil)⟩
 ·
  refine Tr<|Rm Y<|Ra Y<|Za<|?_
  obtain rfl := rt h
  exact Zk<|ZdZ [some 0] Y (.cons (.tmp Y) .nil) (.cons Y (ZD (fk := ZS) (fv := FV3) (m := out) tZ_60 (fun _=>ZN<|rld Y) fun _=>.ren<|.dat Y) .nil) Y Y<|.mref _ Y
theorem Zfn {p : api_Param} {x : api_Part} {r : (List api_Place)} (h : JY p x = some r) :
 CSpec Try.prog gl0 59 [.agg [.str p.Name, .int .i64 p.Kind, .sl 64 (List.map R64 p.Parts), .int .i64 p.First, .int .i64 p.Every, .int .i64 p.Times, .int .i64 p.Step, .sl 9 (List.map R9 p.Names)], .agg [.int .i64 x.Frame, .int .i64 x.Word, .int .i64 x.Low, .int .i64 x.Bits]] (.sl 59 (List.map R59 r)) := by
 unfold JY at h
 replace h := Qf h
 refine So Try.func59 Y fun w0 A=>Tr<|Rq Y (ZY (cva<|ov Y) Y tZ_44 Y)<|Rq Y (ZY (cva<|ov Y) Y tZ_64 Y)<|Ra Y<|Za<|K2 2 3 Y<|Tr<|Ra Y<|Za<|I1 (fun out=>⟨[(5, .own 0 out.length)], [some ⟨59, List.map R59 out⟩]⟩) h (fun h=>?_) fun out h=>?_
 ·
  refine Tr<|Rq Y (Zj (ov Y) Zw Y Y)<|bE h fun y h_y h=>Rq Y (Zr (ZbB h_y)<|.cons (ov Y) (.aggB Y) .nil)<|Rl tZ_3 ZaS Y<|Rm Y<|Za<|Zh<|?_
  obtain ⟨r1, hl1, ho1⟩ := QA h
  refine L2 (fun out2 i=>⟨[(2, .rp [.str p.Name, .int .i64 p.Kind, .sl 64 (List.map R64 p.Parts), .int .i64 p.First, .int .i64 p.Every, .int .i64 p.Times, .int .i64 p.Step, .sl 9 (List.map R9 p.Names)] 0), (3, .rp [.int .i64 x.Frame, .int .i64 x.Word, .int .i64 x.Low, .int .i64 x.Bits] 0), (5, .own 0 out2.length), (10, .sl 3 (List.map R3 y)), (11, .int .i64 (y.length : Int)), (12, .int .i64 i)], [some ⟨59, List.map R59 out2⟩]⟩) hl1 (ES [none]) fun n1 out2 i h=>?_
  unfold XV at h
  refine Tr<|R2 ZM Y<|Za<|Zl<|If h Y (fun h=>?_) fun h=>?_
  ·
   refine Ze<|I1 (fun out3=>⟨[(2, .rp [.str p.Name, .int .i64 p.Kind, .sl 64 (List.map R64 p.Parts), .int .i64 p.First, .int .i64 p.Every, .int .i64 p.Times, .int .i64 p.Step, .sl 9 (List.map R9 p.Names)] 0), (3, .rp [.int .i64 x.Frame, .int .i64 x.Word, .int .i64 x.Low, .int .i64 x.Bits] 0), (5, .own 0 out3.length), (10, .sl 3 (List.map R3 y)), (11, .int .i64 (y.length : Int)), (12, .int .i64 i)], [some ⟨59, List.map R59 out3⟩]⟩) h (fun h=>?_) fun out3 h=>?_
   ·
    refine Zh<|K6 2 3 5 10 11 12 Y<|Tr<|bE h fun x2 h_x2 h=>Rq Y (ZE (ov Y) (ov Y) ZaS h_x2)<|Rq Y (Zc (ov Y) tS3 Y)<|Ra Y<|Za<|K7 2 3 5 7 10 11 12 Y<|Tr<|Rq Y (Zd (ov Y) ZaQ)<|Rq Y (Zc (ov Y) tS3 Y)<|Rm Y<|Za<|Zh<|?_
    obtain ⟨r2, hl2, ho2⟩ := QA h
    refine L2 (fun out4 i2=>⟨[(2, .rp [.str p.Name, .int .i64 p.Kind, .sl 64 (List.map R64 p.Parts), .int .i64 p.First, .int .i64 p.Every, .int .i64 p.Times, .int .i64 p.Step, .sl 9 (List.map R9 p.Names)] 0), (3, .rp [.int .i64 x.Frame, .int .i64 x.Word, .int .i64 x.Low, .int .i64 x.Bits] 0), (5, .own 0 out4.length), (7, .int .i64 x2), (10, .sl 3 (List.map R3 y)), (11, .int .i64 (y.length : Int)), (12, .int .i64 i), (17, .int .i64 p.Times), (18, .int .i64 i2)], [some ⟨59, List.map R59 out4⟩]⟩) hl2 (ES [some 0]) fun n2 out4 i2 h=>?_
    unfold XX at h
    refine Tr<|R2 ZM Y<|Za<|Zl<|If h Y (fun h=>?_) fun h=>?_
    ·
     exact Ze<|Zl<|Zh<|K9 2 3 5 7 10 11 12 17 18 Y<|Tr<|Rm Y<|Ra Y<|Za<|K10 2 3 5 7 8 10 11 12 17 18 Y<|Zy<|Rm Y<|Rq Y (Zj (ov Y) Zw Y Y)<|Rq Y (Zj (ov Y) X8 Y Y)<|Rm Y<|Rm Y<|bE h fun y2 h_y2 h=>Rq Y (Zr (ZcS h_y2)<|.cons (ov Y) (.aggB Y)<|.cons (ov Y) (.aggB Y)<|.cons (ov Y) (.b Y)<|.cons (ov Y) (.b Y) .nil)<|R_q (.sl 59<|List.map R59 ([y2] : List api_Place)) Y (X7 ZdL (.cons (cva<|ov Y) Y (pwD Y) .nil) Y Y)<|bE h fun l h_l h=>Rx Y (ZX (ov Y) (ZV (ov Y) tZ_59) ZdL Y Y Y (fun _=>Zb Y) Y h_l)<|Ra Y<|Za<|K9 2 3 5 7 10 11 12 17 18 Y<|Zy<|R2 Z5 Y<|Rm Y<|Za<|⟨_, h, ES [some 0]⟩
    ·
     refine ZC<|?_
     replace h := lx h ▸ ho2
     exact ⟨_, h, ES [some 0]⟩
   ·
    exact Zy<|R2 Z5 Y<|Rm Y<|Za<|⟨_, h, ES [some 0]⟩
  ·
   refine ZC<|?_
   replace h := lx h ▸ ho1
   exact ⟨_, h, ES [some 0]⟩
 ·
  refine Tr<|Rm Y<|Ra Y<|Za<|?_
  obtain rfl := rt h
  exact Zk (Zp Y (.one<|.tmp Y<|View.ownM Y Y D59))
theorem Zg4 {taken : List (layout_bit × Int)} {l : List api_Place} {r : Bool} (h : ZbW taken l = some r) :
 GSpec Try.prog gl0 60 [.mref 0 1, .sl 59 (List.map R59 l)] [some ⟨60, [[.mcon (List.map (ZZ ZS FV3) taken)]]⟩] (.bool r) [some ⟨60, [[.mcon (List.map (ZZ ZS FV3) taken)]]⟩] := by
 unfold ZbW at h
 replace h := Qf h
 refine ZaB (by kernel_rfl) Try.func60 Y Y<|?_
 intro w0 A W φ0
 refine Tr<|Ra Y<|Za<|K2 0 1 Y<|Tr<|Rx Y (ZaZ 1 Y Zg8)<|Ra Y<|Za<|J0 (fun j => (.inr j)) ⟨[(1, .sl 59 (List.map R59 l)), (5, .mref 1 1)], [some ⟨60, [[.mcon (List.map (ZZ ZS FV3) taken)]]⟩, some ⟨60, [[.mcon (List.map (ZZ ZS FV3) ([] : List (layout_bit × Int)))]]⟩]⟩ h (fun h=>?_) fun h=>?_
 ·
  refine K3 0 1 5 Y<|Tr<|Rm Y<|Rl tZ_59 ZdL Y<|Rm Y<|Za<|Zh<|?_
  obtain ⟨r1, hl1, ho1⟩ := QA h
  refine L1 (fun i=>⟨[(0, .mref 0 1), (1, .sl 59 (List.map R59 l)), (5, .mref 1 1), (13, .sl 59 (List.map R59 l)), (14, .int .i64 (l.length : Int)), (15, .int .i64 i)], [some ⟨60, [[.mcon (List.map (ZZ ZS FV3) taken)]]⟩, some ⟨60, [[.mcon (List.map (ZZ ZS FV3) ([] : List (layout_bit × Int)))]]⟩]⟩) hl1 (ES [some 0, some 1] (hhp := .cons Y (ZD (fk := ZS) (fv := FV3) (m := taken) tZ_60 (fun _=>ZN<|rld Y) fun _=>.ren<|.dat Y)<|.cons Y (ZD (fk := ZS) (fv := FV3) (m := ([] : List (layout_bit × Int))) tZ_60 (fun _=>ZN<|rld Y) fun _=>.ren<|.dat Y) .nil)) fun n1 i h=>?_
  unfold JU at h
  refine Tr<|R2 ZM Y<|Za<|Zl<|If h Y (fun h=>?_) fun h=>?_
  ·
   refine Ze<|J0 (fun j => (.inr j)) ⟨[(0, .mref 0 1), (1, .sl 59 (List.map R59 l)), (5, .mref 1 1), (13, .sl 59 (List.map R59 l)), (14, .int .i64 (l.length : Int)), (15, .int .i64 i)], [some ⟨60, [[.mcon (List.map (ZZ ZS FV3) taken)]]⟩, some ⟨60, [[.mcon (List.map (ZZ ZS FV3) ([] : List (layout_bit × Int)))]]⟩]⟩ h (fun h=>?_) fun h=>?_
   ·
    refine Zh<|K6 0 1 5 13 14 15 Y<|Tr<|bE h fun x h_x h=>Rq Y (ZE (ov Y) (ov Y) ZdL h_x)<|Rq Y (Zj (ov Y) Zfp Y Y)<|Rx Y (Zs (row := [_, _, _, _]) 2 Y ZhQ Y tZ_59)<|Rx Y (Zg (ov Y) (ov Y) (Zf Zfp Y) Y Y Y (Nat.le_of_ble_eq_true Y) (Zb Y) Y)<|Za<|K7 0 1 5 7 13 14 15 Y<|Tr<|Rq Y (Zn (ov Y) Y Y Y Zfp Y Y)<|bE h fun y h_y h=>Rq Y (Zr (Zc9 h_y)<|.cons (ov Y) (.aggB Y) .nil)<|Rl tZ_63 Zhx Y<|Rm Y<|Za<|Zh<|?_
    obtain ⟨r2, hl2, ho2⟩ := QA h
    refine L1 (fun i2=>⟨[(0, .mref 0 1), (1, .sl 59 (List.map R59 l)), (5, .mref 1 1), (13, .sl 59 (List.map R59 l)), (14, .int .i64 (l.length : Int)), (15, .int .i64 i), (20, .sl 63 (List.map R63 y)), (21, .int .i64 (y.length : Int)), (22, .int .i64 i2)], [some ⟨60, [[.mcon (List.map (ZZ ZS FV3) taken)]]⟩, some ⟨60, [[.mcon (List.map (ZZ ZS FV3) ([] : List (layout_bit × Int)))]]⟩]⟩) hl2 (ES [some 0, some 1] (hhp := .cons Y (ZD (fk := ZS) (fv := FV3) (m := taken) tZ_60 (fun _=>ZN<|rld Y) fun _=>.ren<|.dat Y)<|.cons Y (ZD (fk := ZS) (fv := FV3) (m := ([] : List (layout_bit × Int))) tZ_60 (fun _=>ZN<|rld Y) fun _=>.ren<|.dat Y) .nil)) fun n2 i2 h=>?_
    unfold Jb at h
    refine Tr<|R2 ZM Y<|Za<|Zl<|If h Y (fun h=>?_) fun h=>?_
    ·
     refine Ze<|Zl<|Zh<|K9 0 1 5 13 14 15 20 21 22 Y<|Tr<|bE h fun x2 h_x2 h=>Rq Y (ZE (ov Y) (ov Y) Zhx h_x2)<|Rq Y (Zj (ov Y) Zi0 Y Y)<|Rx Y (Zs (row := [_, _, _]) 2 Y Zmh Y tZ_63)<|Rx Y (Zg (ov Y) (ov Y) (Zf Zi0 Y) Y Y Y (Nat.le_of_ble_eq_true Y) (Zb Y) Y)<|Za<|K10 0 1 5 9 13 14 15 20 21 22 Y<|Tr<|Rm Y<|Rq Y (Zn (ov Y) Y Y Y Zi0 Y Y)<|bE h fun o h_o h=>Rq Y (ZlK (m := taken) (fk := ZS) (fv := FV3) (k := x2) (z0 := 0) (ov Y) (ov Y) Zg8 Zk4 Y (fun _=>.aggB Y) (J8 ZmB Y) (fun _ _=>Y) h_o)<|Rm Y<|Rq Y (Zo (ov Y) Y)<|Rq Y (Zo (ov Y) Y)<|Ra Y<|Ra Y<|Za<|K10 0 1 5 11 13 14 15 20 21 22 Y<|Tr<|Rm Y<|Za<|K10 0 1 5 13 14 15 20 21 22 32 Y<|If h Y (fun h=>?_) fun h=>?_
     ·
      refine K0<|Tr<|Ra Y<|Za<|?_
      replace h := lx h ▸ ho2
      replace h := lx h ▸ ho1
      obtain rfl := rt h
      exact Zk<|ZdZ [some 0] Y (.cons (.tmp Y) .nil) (.cons Y (ZD (fk := ZS) (fv := FV3) (m := taken) tZ_60 (fun _=>ZN<|rld Y) fun _=>.ren<|.dat Y) .nil) Y Y<|.dat Y
     ·
      exact Ze<|K9 0 1 5 13 14 15 20 21 22 Y<|Zy<|R2 Z5 Y<|Rm Y<|Za<|⟨_, h, ES [some 0, some 1] (hhp := .cons Y (ZD (fk := ZS) (fv := FV3) (m := taken) tZ_60 (fun _=>ZN<|rld Y) fun _=>.ren<|.dat Y)<|.cons Y (ZD (fk := ZS) (fv := FV3) (m := ([] : List (layout_bit × Int))) tZ_60 (fun _=>ZN<|rld Y) fun _=>.ren<|.dat Y) .nil)⟩
    ·
     refine ZC<|?_
     replace h := lx h ▸ ho2
     exact ⟨(), h, ES [some 0, some 1] (hhp := .cons Y (ZD (fk := ZS) (fv := FV3) (m := taken) tZ_60 (fun _=>ZN<|rld Y) fun _=>.ren<|.dat Y)<|.cons Y (ZD (fk := ZS) (fv := FV3) (m := ([] : List (layout_bit × Int))) tZ_60 (fun _=>ZN<|rld Y) fun _=>.ren<|.dat Y) .nil)⟩
   ·
    replace h := elr h
    replace h := t0i h
    exact Zy<|R2 Z5 Y<|Rm Y<|Za<|⟨_, h, ES [some 0, some 1] (hhp := .cons Y (ZD (fk := ZS) (fv := FV3) (m := taken) tZ_60 (fun _=>ZN<|rld Y) fun _=>.ren<|.dat Y)<|.cons Y (ZD (fk := ZS) (fv := FV3) (m := ([] : List (layout_bit × Int))) tZ_60 (fun _=>ZN<|rld Y) fun _=>.ren<|.dat Y) .nil)⟩
  ·
   refine ZC<|?_
   replace h := lx h ▸ ho1
   exact ⟨(), h, ES [some 0, some 1] (hhp := .cons Y (ZD (fk := ZS) (fv := FV3) (m := taken) tZ_60 (fun _=>ZN<|rld Y) fun _=>.ren<|.dat Y)<|.cons Y (ZD (fk := ZS) (fv := FV3) (m := ([] : List (layout_bit × Int))) tZ_60 (fun _=>ZN<|rld Y) fun _=>.ren<|.dat Y) .nil)⟩
 ·
  replace h := elr h
  replace h := t0i h
  refine Tr<|Rm Y<|Rm Y<|bE h fun y2 h_y2 h=>Rx Y (QS [1] (JV h_y2) (.cons (ov Y) (.mref _ Y)<|.cons (ov Y) (.dat Y)<|.cons (ov Y) (.dat Y) .nil) (.cons Y (ZD (fk := ZS) (fv := FV3) (m := ([] : List (layout_bit × Int))) tZ_60 (fun _=>ZN<|rld Y) fun _=>.ren<|.dat Y) .nil) Y (.keep Y Y<|.lent 0 (.inl Y) Y (ZD (fk := ZS) (fv := FV3) (m := y2.2) tZ_60 (fun _=>ZN<|rld Y) fun _=>.ren<|.dat Y) .nil) Y Y<|.dat Y)<|Ra Y<|Za<|?_
  obtain rfl := rt h
  exact Zk<|ZdZ [some 0] Y (.cons (.tmp Y) .nil) (.cons Y (ZD (fk := ZS) (fv := FV3) (m := taken) tZ_60 (fun _=>ZN<|rld Y) fun _=>.ren<|.dat Y) .nil) Y Y<|.dat Y
theorem ZfM {taken : List (layout_bit × Int)} {p : api_Param} {x : api_Part} {r : api_Part × Bool × (List (layout_bit × Int))} (h : Je taken p x = some r) :
 GSpec Try.prog gl0 33 [.mref 0 1, .agg [.str p.Name, .int .i64 p.Kind, .sl 64 (List.map R64 p.Parts), .int .i64 p.First, .int .i64 p.Every, .int .i64 p.Times, .int .i64 p.Step, .sl 9 (List.map R9 p.Names)], .agg [.int .i64 x.Frame, .int .i64 x.Word, .int .i64 x.Low, .int .i64 x.Bits]] [some ⟨60, [[.mcon (List.map (ZZ ZS FV3) taken)]]⟩] (.tuple [.agg [.int .i64 r.1.Frame, .int .i64 r.1.Word, .int .i64 r.1.Low, .int .i64 r.1.Bits], .bool r.2.1]) [some ⟨60, [[.mcon (List.map (ZZ ZS FV3) r.2.2)]]⟩] := by
 unfold Je at h
 replace h := Qf h
 refine ZaB (by kernel_rfl) Try.func33 Y Y<|?_
 intro w0 A W φ0
 refine Tr<|Rq Y (ZY (cva<|ov Y) Y tZ_44 Y)<|Rx Y (Zic 1 Y (ov Y) X8 Y)<|Rx Y (Zs (row := [_, _, _, _]) 2 Y ZeR Y tZ_64)<|Ra Y<|Za<|J1 (fun j => (.inr j)) (fun x2=>⟨[(5, .ptr 1 1 0 0), (6, .ptr 2 1 0 0)], [some ⟨60, [[.mcon (List.map (ZZ ZS FV3) taken)]]⟩, some ⟨64, [[.int .i64 x2.Frame, .int .i64 x2.Word, .int .i64 x2.Low, .int .i64 x2.Bits]]⟩, some ⟨64, [[.int .i64 0, .int .i64 0, .int .i64 0, .int .i64 0]]⟩]⟩) h (fun h=>?_) fun x2 h=>?_
 ·
  refine K4 0 4 5 6 Y<|Tr<|Rq Y (Zi (ov Y) Y Y Zb9)<|Rx Y (Zg (ov Y) (ov Y) (Zv tS3) Y Y Y (Nat.le_of_ble_eq_true Y) (Zb Y) Y)<|Za<|Zh<|?_
  obtain ⟨r1, hl1, ho1⟩ := QA h
  refine L1 (fun x3=>⟨[(0, .mref 0 1), (4, .rp [.str p.Name, .int .i64 p.Kind, .sl 64 (List.map R64 p.Parts), .int .i64 p.First, .int .i64 p.Every, .int .i64 p.Times, .int .i64 p.Step, .sl 9 (List.map R9 p.Names)] 0), (5, .ptr 1 1 0 0), (6, .ptr 2 1 0 0)], [some ⟨60, [[.mcon (List.map (ZZ ZS FV3) taken)]]⟩, some ⟨64, [[.int .i64 x3.Frame, .int .i64 x3.Word, .int .i64 x3.Low, .int .i64 x3.Bits]]⟩, some ⟨64, [[.int .i64 0, .int .i64 0, .int .i64 0, .int .i64 0]]⟩]⟩) hl1 (ES [some 0, some 1, some 2] (hhp := .cons Y (ZD (fk := ZS) (fv := FV3) (m := taken) tZ_60 (fun _=>ZN<|rld Y) fun _=>.ren<|.dat Y)<|.cons Y (ro1 (by exact tZ_64.symm)<|rld Y)<|.cons Y (ro1 (by exact tZ_64.symm)<|rld Y) .nil)) fun n1 x3 h=>?_
  unfold XW at h
  refine Zl<|Tr<|Rq Y (Zi (ov Y) Y Y Zb9)<|Rq Y (Zm (ov Y) Y Y Y tS3 Y)<|Rq Y (Zd (ov Y) ZaQ)<|Rq Y (Zc (ov Y) tS3 Y)<|R2 Zdo Y<|Rq Y (Zd (ov Y) Zbp)<|Rq Y (Zc (ov Y) tS3 Y)<|R2 Zhc Y<|R2 Z5 Y<|R2 ZdJ Y<|Za<|K5 0 4 5 6 19 Y<|If h Y (fun h=>?_) fun h=>?_
  ·
   refine Ze<|J1 (fun j => (.inr j)) (fun Low=>⟨[(0, .mref 0 1), (4, .rp [.str p.Name, .int .i64 p.Kind, .sl 64 (List.map R64 p.Parts), .int .i64 p.First, .int .i64 p.Every, .int .i64 p.Times, .int .i64 p.Step, .sl 9 (List.map R9 p.Names)] 0), (5, .ptr 1 1 0 0), (6, .ptr 2 1 0 0)], [some ⟨60, [[.mcon (List.map (ZZ ZS FV3) taken)]]⟩, some ⟨64, [[.int .i64 x3.Frame, .int .i64 x3.Word, .int .i64 Low, .int .i64 x3.Bits]]⟩, some ⟨64, [[.int .i64 0, .int .i64 0, .int .i64 0, .int .i64 0]]⟩]⟩) h (fun h=>?_) fun Low h=>?_
   ·
    refine Zh<|K4 0 4 5 6 Y<|Tr<|Rq Y (Zi (ov Y) Y Y Zcd)<|Rx Y (Zg (ov Y) (ov Y) (Zv tS3) Y Y Y (Nat.le_of_ble_eq_true Y) (Zb Y) Y)<|Za<|Zh<|?_
    obtain ⟨r2, hl2, ho2⟩ := QA h
    refine L1 (fun Low2=>⟨[(0, .mref 0 1), (4, .rp [.str p.Name, .int .i64 p.Kind, .sl 64 (List.map R64 p.Parts), .int .i64 p.First, .int .i64 p.Every, .int .i64 p.Times, .int .i64 p.Step, .sl 9 (List.map R9 p.Names)] 0), (5, .ptr 1 1 0 0), (6, .ptr 2 1 0 0)], [some ⟨60, [[.mcon (List.map (ZZ ZS FV3) taken)]]⟩, some ⟨64, [[.int .i64 x3.Frame, .int .i64 x3.Word, .int .i64 Low2, .int .i64 x3.Bits]]⟩, some ⟨64, [[.int .i64 0, .int .i64 0, .int .i64 0, .int .i64 0]]⟩]⟩) hl2 (ES [some 0, some 1, some 2] (hhp := .cons Y (ZD (fk := ZS) (fv := FV3) (m := taken) tZ_60 (fun _=>ZN<|rld Y) fun _=>.ren<|.dat Y)<|.cons Y (ro1 (by exact tZ_64.symm)<|rld Y)<|.cons Y (ro1 (by exact tZ_64.symm)<|rld Y) .nil)) fun n2 Low2 h=>?_
    unfold Xi at h
    refine Zl<|Tr<|Rq Y (Zi (ov Y) Y Y Zcd)<|Rq Y (Zm (ov Y) Y Y Y tS3 Y)<|Rq Y (Zi (ov Y) Y Y Zdm)<|Rq Y (Zm (ov Y) Y Y Y tS3 Y)<|R2 Z5 Y<|R2 ZdJ Y<|Za<|K5 0 4 5 6 30 Y<|If h Y (fun h=>?_) fun h=>?_
    ·
     refine Ze<|Zl<|Zh<|K4 0 4 5 6 Y<|Tr<|Rq Y (Zj (ov Y) Zw Y Y)<|Rq Y (Zn (ov Y) Y Y Y X8 Y Y)<|bE h fun y h_y h=>Rq Y (Zr (Zfn h_y)<|.cons (ov Y) (.aggB Y)<|.cons (ov Y) (.aggB Y) .nil)<|Ra Y<|Za<|K5 0 4 5 6 8 Y<|Tr<|Rm Y<|Rm Y<|bE h fun y2 h_y2 h=>Rx Y (QS [0] (Zg4 h_y2) (.cons (ov Y) (.mref _ Y)<|.cons (ov Y) (.dat Y) .nil) (.cons Y (ZD (fk := ZS) (fv := FV3) (m := taken) tZ_60 (fun _=>ZN<|rld Y) fun _=>.ren<|.dat Y) .nil) Y (.lent 0 (.inl Y) Y (ZD (fk := ZS) (fv := FV3) (m := taken) tZ_60 (fun _=>ZN<|rld Y) fun _=>.ren<|.dat Y)<|.keep Y Y<|.keep Y Y .nil) Y Y<|.dat Y)<|Za<|K6 0 4 5 6 8 40 Y<|If h Y (fun h=>?_) fun h=>?_
     ·
      refine K4 0 5 6 8 Y<|Tr<|Rm Y<|Rm Y<|bE h fun y3 h_y3 h=>Rx Y (QS [0] (JV h_y3) (.cons (ov Y) (.mref _ Y)<|.cons (ov Y) (.dat Y)<|.cons (ov Y) (.dat Y) .nil) (.cons Y (ZD (fk := ZS) (fv := FV3) (m := taken) tZ_60 (fun _=>ZN<|rld Y) fun _=>.ren<|.dat Y) .nil) Y (.lent 0 (.inl Y) Y (ZD (fk := ZS) (fv := FV3) (m := y3.2) tZ_60 (fun _=>ZN<|rld Y) fun _=>.ren<|.dat Y)<|.keep Y Y<|.keep Y Y .nil) Y Y<|.dat Y)<|Za<|K2 5 6 Y<|Tr<|Rq Y (Zn (ov Y) Y Y Y X8 Y Y)<|Rx Y (Zg (ov Y) (ov Y) (Zf X8 Y) Y Y Y (Nat.le_of_ble_eq_true Y) (Zb Y) Y)<|Ra Y<|Za<|?_
      replace h := lx h ▸ ho2
      replace h := lx h ▸ ho1
      obtain rfl := rt h
      exact Zk<|ZdZ [some 0] Y (.cons (.agg Y Y Y Y X8 Y Y)<|.cons (.tmp Y) .nil) (.cons Y (ZD (fk := ZS) (fv := FV3) (m := y3.2) tZ_60 (fun _=>ZN<|rld Y) fun _=>.ren<|.dat Y) .nil) Y Y<|ZlB<|rlc (ZN<|rld Y)<|rlc (.dat Y) rln
     ·
      exact Ze<|K4 0 4 5 6 Y<|Zy<|Rq Y (Zi (ov Y) Y Y Zcd)<|Rq Y (Zm (ov Y) Y Y Y tS3 Y)<|R2 Z5 Y<|Rq Y (Zi (ov Y) Y Y Zcd)<|Rx Y (Zg (ov Y) (ov Y) (Zv tS3) Y Y Y (Nat.le_of_ble_eq_true Y) (Zb Y) Y)<|Za<|⟨_, h, ES [some 0, some 1, some 2] (hhp := .cons Y (ZD (fk := ZS) (fv := FV3) (m := taken) tZ_60 (fun _=>ZN<|rld Y) fun _=>.ren<|.dat Y)<|.cons Y (ro1 (by exact tZ_64.symm)<|rld Y)<|.cons Y (ro1 (by exact tZ_64.symm)<|rld Y) .nil)⟩
    ·
     refine ZC<|?_
     replace h := lx h ▸ ho2
     exact ⟨_, h, ES [some 0, some 1, some 2] (hhp := .cons Y (ZD (fk := ZS) (fv := FV3) (m := taken) tZ_60 (fun _=>ZN<|rld Y) fun _=>.ren<|.dat Y)<|.cons Y (ro1 (by exact tZ_64.symm)<|rld Y)<|.cons Y (ro1 (by exact tZ_64.symm)<|rld Y) .nil)⟩
   ·
    replace h := elr h
    replace h := t1i h
    exact Zy<|Rq Y (Zi (ov Y) Y Y Zb9)<|Rq Y (Zm (ov Y) Y Y Y tS3 Y)<|R2 Z5 Y<|Rq Y (Zi (ov Y) Y Y Zb9)<|Rx Y (Zg (ov Y) (ov Y) (Zv tS3) Y Y Y (Nat.le_of_ble_eq_true Y) (Zb Y) Y)<|Za<|⟨_, h, ES [some 0, some 1, some 2] (hhp := .cons Y (ZD (fk := ZS) (fv := FV3) (m := taken) tZ_60 (fun _=>ZN<|rld Y) fun _=>.ren<|.dat Y)<|.cons Y (ro1 (by exact tZ_64.symm)<|rld Y)<|.cons Y (ro1 (by exact tZ_64.symm)<|rld Y) .nil)⟩
  ·
   refine ZC<|?_
   replace h := lx h ▸ ho1
   exact ⟨_, h, ES [some 0, some 1, some 2] (hhp := .cons Y (ZD (fk := ZS) (fv := FV3) (m := taken) tZ_60 (fun _=>ZN<|rld Y) fun _=>.ren<|.dat Y)<|.cons Y (ro1 (by exact tZ_64.symm)<|rld Y)<|.cons Y (ro1 (by exact tZ_64.symm)<|rld Y) .nil)⟩
 ·
  replace h := elr h
  replace h := t1i h
  refine Tr<|Rq Y (Zn (ov Y) Y Y Y X8 Y Y)<|Rx Y (Zg (ov Y) (ov Y) (Zf X8 Y) Y Y Y (Nat.le_of_ble_eq_true Y) (Zb Y) Y)<|Ra Y<|Za<|?_
  obtain rfl := rt h
  exact Zk<|ZdZ [some 0] Y (.cons (.agg Y Y Y Y X8 Y Y)<|.cons (.tmp Y) .nil) (.cons Y (ZD (fk := ZS) (fv := FV3) (m := taken) tZ_60 (fun _=>ZN<|rld Y) fun _=>.ren<|.dat Y) .nil) Y Y<|ZlB<|rlc (ZN<|rld Y)<|rlc (.dat Y) rln
end Go.Proofs.Ytjjlfkjacmhcmaa
