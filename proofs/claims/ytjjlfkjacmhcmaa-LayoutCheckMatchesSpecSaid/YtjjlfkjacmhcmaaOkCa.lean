/- A text of the proof: a verified executor of the program form, or the contracts of the functions that the law reaches. -/
import Derived.Test.YtjjlfkjacmhcmaaVS
import Derived.Test.YtjjlfkjacmhcmaaPA
import Derived.Test.YtjjlfkjacmhcmaaVV
import Derived.Test.YtjjlfkjacmhcmaaShT
import Derived.Test.YtjjlfkjacmhcmaaProg
import Derived.Test.YtjjlfkjacmhcmaaLayC
set_option linter.all false
namespace Go.Proofs.Ytjjlfkjacmhcmaa
open Go Go.Vx
set_option maxRecDepth 10000
set_option maxHeartbeats 1000000
set_option linter.unusedVariables false
theorem tZ_64 : Try.prog.cellsOf 64 = 4 := by kernel_rfl
instance : SzD Try.prog 64 4 := ⟨tZ_64⟩
theorem tZ_9 : Try.prog.cellsOf 9 = 1 := by kernel_rfl
instance : SzD Try.prog 9 1 := ⟨tZ_9⟩
theorem tZ_44 : Try.prog.cellsOf 44 = 8 := by kernel_rfl
instance : SzD Try.prog 44 8 := ⟨tZ_44⟩
theorem tZ_24 : Try.prog.cellsOf 24 = 2 := by kernel_rfl
instance : SzD Try.prog 24 2 := ⟨tZ_24⟩
theorem Zb9 : tAgg Try.prog 24 2 = true := by kernel_rfl
theorem Zg8 : tFld Try.prog 24 0 0 = true := by kernel_rfl
theorem tS3 : tScal Try.prog 3 = true := by kernel_rfl
theorem Zap : tFld Try.prog 24 1 1 = true := by kernel_rfl
theorem Zeu : tScal Try.prog 22 = true := by kernel_rfl
theorem Za1 : tSl Try.prog 22 44 8 104 = true := by kernel_rfl
theorem Xy : tAgg Try.prog 44 8 = true := by kernel_rfl
theorem ZgG : XA Try.prog 44 = some [.string ⟨#[]⟩, .int .i64 0, .slice none 0 0, .int .i64 0, .int .i64 0, .int .i64 0, .int .i64 0, .slice none 0 0] := by kernel_rfl
theorem Zfv : tFld Try.prog 44 0 0 = true := by kernel_rfl
theorem tS9 : tScal Try.prog 9 = true := by kernel_rfl
theorem ZfG : tStr Try.prog 9 = true := by kernel_rfl
theorem Zbk : tFld Try.prog 44 1 1 = true := by kernel_rfl
theorem ZaL : tFld Try.prog 44 2 2 = true := by kernel_rfl
theorem ZeH : tScal Try.prog 41 = true := by kernel_rfl
theorem ZbB : tSl Try.prog 41 64 4 32 = true := by kernel_rfl
theorem Zcr : tAgg Try.prog 64 4 = true := by kernel_rfl
theorem ZgF : XA Try.prog 64 = some [.int .i64 0, .int .i64 0, .int .i64 0, .int .i64 0] := by kernel_rfl
theorem Zfj : tFld Try.prog 64 0 0 = true := by kernel_rfl
theorem Zfp : tFld Try.prog 64 1 1 = true := by kernel_rfl
theorem Zfm : tFld Try.prog 64 2 2 = true := by kernel_rfl
theorem Zfe : tFld Try.prog 64 3 3 = true := by kernel_rfl
theorem ZaN : tSl Try.prog 65 3 1 8 = true := by kernel_rfl
theorem tZ_3 : Try.prog.cellsOf 3 = 1 := by kernel_rfl
instance : SzD Try.prog 3 1 := ⟨tZ_3⟩
theorem Ze9 : tFld Try.prog 44 4 4 = true := by kernel_rfl
theorem Zg9 : tFld Try.prog 44 3 3 = true := by kernel_rfl
theorem Zcj : tFld Try.prog 44 5 5 = true := by kernel_rfl
theorem Zch : tFld Try.prog 44 6 6 = true := by kernel_rfl
theorem tB4 : (match Try.prog.underlying 4 with | some .bool => true | _ => false) = true := by kernel_rfl
theorem Za9 : tFld Try.prog 44 7 7 = true := by kernel_rfl
theorem Zfa : tScal Try.prog 42 = true := by kernel_rfl
theorem ZcU : tSl Try.prog 42 9 1 16 = true := by kernel_rfl
theorem ZgK : tMap Try.prog 60 63 3 = true := by kernel_rfl
theorem tZ3 : XA Try.prog 3 = some [.int .i64 0] := by kernel_rfl
theorem Zar : tSl Try.prog 28 34 4 48 = true := by kernel_rfl
theorem Zk3 : J8 Try.prog 34 = some [(0, 1), (1, 1), (2, 1), (3, 1)] := by kernel_rfl
theorem Zk4 : Zce Try.prog 34 = true := by kernel_rfl
theorem Zfr : XA Try.prog 34 = some [.int .i64 0, .int .i64 0, .int .i64 0, .slice none 0 0] := by kernel_rfl
theorem tZ_34 : Try.prog.cellsOf 34 = 4 := by kernel_rfl
instance : SzD Try.prog 34 4 := ⟨tZ_34⟩
theorem ZbD : tAgg Try.prog 34 4 = true := by kernel_rfl
theorem Zbe : tFld Try.prog 34 3 3 = true := by kernel_rfl
theorem Zfn : tScal Try.prog 32 = true := by kernel_rfl
theorem ZhT : XA Try.prog 59 = some [.int .i64 0, .int .i64 0, .int .i64 0, .int .i64 0] := by kernel_rfl
theorem tZ_59 : Try.prog.cellsOf 59 = 4 := by kernel_rfl
instance : SzD Try.prog 59 4 := ⟨tZ_59⟩
theorem Zk0 : J8 Try.prog 59 = some [(0, 1), (1, 1), (2, 1), (3, 1)] := by kernel_rfl
theorem ZkX : Zce Try.prog 59 = true := by kernel_rfl
theorem Zeg : tAgg Try.prog 59 4 = true := by kernel_rfl
theorem ZcW : tSl Try.prog 32 59 4 32 = true := by kernel_rfl
theorem Zl6 : ZcO Try.prog 63 [.i .i64, .i .i64, .i .i64] = true := by kernel_rfl
theorem Zmq : ZgJ Try.prog 3 = some (.int .i64 0) := by kernel_rfl
theorem Zel : tFld Try.prog 59 3 3 = true := by kernel_rfl
theorem Zf7 : tFld Try.prog 59 0 0 = true := by kernel_rfl
theorem Zhe : tFld Try.prog 59 1 1 = true := by kernel_rfl
theorem Zf5 : tFld Try.prog 59 2 2 = true := by kernel_rfl
theorem Zl1 : J8 Try.prog 63 = some [(0, 1), (1, 1), (2, 1)] := by kernel_rfl
theorem ZlZ : Zce Try.prog 63 = true := by kernel_rfl
theorem Zln : XA Try.prog 63 = some [.int .i64 0, .int .i64 0, .int .i64 0] := by kernel_rfl
theorem Zis : tSl Try.prog 106 63 3 24 = true := by kernel_rfl
theorem tZ_63 : Try.prog.cellsOf 63 = 3 := by kernel_rfl
instance : SzD Try.prog 63 3 := ⟨tZ_63⟩
theorem Zjv : tAgg Try.prog 63 3 = true := by kernel_rfl
theorem tZ_60 : Try.prog.cellsOf 60 = 1 := by kernel_rfl
instance : SzD Try.prog 60 1 := ⟨tZ_60⟩
theorem Zir : tMap Try.prog 54 108 4 = true := by kernel_rfl
theorem Zlb : tIntA Try.prog 108 3 3 .i64 = true := by kernel_rfl
theorem Zmt : ZgJ Try.prog 4 = some (.bool false) := by kernel_rfl
theorem Zmc : tArr Try.prog 108 3 3 1 = true := by kernel_rfl
theorem ZkZ : XA Try.prog 108 = some [.int .i64 0, .int .i64 0, .int .i64 0] := by kernel_rfl
theorem tZ_108 : Try.prog.cellsOf 108 = 3 := by kernel_rfl
instance : SzD Try.prog 108 3 := ⟨tZ_108⟩
theorem ZjQ : tAgg Try.prog 108 3 = true := by kernel_rfl
theorem tZ_54 : Try.prog.cellsOf 54 = 1 := by kernel_rfl
instance : SzD Try.prog 54 1 := ⟨tZ_54⟩
theorem Zfs : tFld Try.prog 34 0 0 = true := by kernel_rfl
theorem Zii : tFld Try.prog 34 1 1 = true := by kernel_rfl
theorem ZjR : tFld Try.prog 34 2 2 = true := by kernel_rfl
theorem ZlK : ZcO Try.prog 59 [.i .i64, .i .i64, .i .i64, .i .i64] = true := by kernel_rfl
theorem Zjc : XA Try.prog 36 = some [.int .i64 0, .int .i64 0, .int .i64 0, .int .i64 0, .int .i64 0, .int .i64 0, .int .i64 0, .int .i64 0, .int .i64 0, .int .i64 0, .int .i64 0, .int .i64 0, .int .i64 0, .int .i64 0, .int .i64 0, .int .i64 0] := by kernel_rfl
theorem tZ_36 : Try.prog.cellsOf 36 = 16 := by kernel_rfl
instance : SzD Try.prog 36 16 := ⟨tZ_36⟩
theorem Zd3 : tAgg Try.prog 36 16 = true := by kernel_rfl
theorem ZiR : tArr Try.prog 36 16 3 1 = true := by kernel_rfl
theorem Zlz : tFld Try.prog 63 0 0 = true := by kernel_rfl
theorem Zl3 : J8 Try.prog 64 = some [(0, 1), (1, 1), (2, 1), (3, 1)] := by kernel_rfl
theorem ZlP : Zce Try.prog 64 = true := by kernel_rfl
theorem ZlF : J8 Try.prog 44 = some [(0, 1), (1, 1), (2, 1), (3, 1), (4, 1), (5, 1), (6, 1), (7, 1)] := by kernel_rfl
theorem Zmg : Zce Try.prog 44 = true := by kernel_rfl
theorem Zl4 : J8 Try.prog 24 = some [(0, 1), (1, 1)] := by kernel_rfl
theorem ZlH : Zce Try.prog 24 = true := by kernel_rfl
theorem Zmf : XA Try.prog 24 = some [.int .i64 0, .slice none 0 0] := by kernel_rfl
theorem ZkN : XA Try.prog 66 = some [.slice none 0 0, .slice none 0 0, .slice none 0 0, .slice none 0 0, .slice none 0 0, .slice none 0 0, .slice none 0 0, .slice none 0 0, .slice none 0 0, .slice none 0 0, .slice none 0 0, .slice none 0 0, .slice none 0 0, .slice none 0 0, .slice none 0 0, .slice none 0 0] := by kernel_rfl
theorem tZ_66 : Try.prog.cellsOf 66 = 16 := by kernel_rfl
instance : SzD Try.prog 66 16 := ⟨tZ_66⟩
theorem Zde : tAgg Try.prog 66 16 = true := by kernel_rfl
theorem ZeY : tArr Try.prog 66 16 65 1 = true := by kernel_rfl
theorem ZeB : tScal Try.prog 65 = true := by kernel_rfl
theorem Zff : XA Try.prog 90 = some [.int .i64 0, .int .i64 0, .nilFunc, .nilFunc] := by kernel_rfl
theorem tZ_90 : Try.prog.cellsOf 90 = 4 := by kernel_rfl
instance : SzD Try.prog 90 4 := ⟨tZ_90⟩
theorem Zmo : XA Try.prog 87 = some [.nilFunc] := by kernel_rfl
theorem tZ_87 : Try.prog.cellsOf 87 = 1 := by kernel_rfl
instance : SzD Try.prog 87 1 := ⟨tZ_87⟩
theorem Zlt : tScal Try.prog 87 = true := by kernel_rfl
theorem Zl7 : XA Try.prog 109 = some [.nilFunc] := by kernel_rfl
theorem tZ_109 : Try.prog.cellsOf 109 = 1 := by kernel_rfl
instance : SzD Try.prog 109 1 := ⟨tZ_109⟩
theorem Ziz : tScal Try.prog 109 = true := by kernel_rfl
theorem Za4 : tMap Try.prog 111 3 110 = true := by kernel_rfl
theorem tI3 : tInt Try.prog 3 .i64 = true := by kernel_rfl
theorem tZ_111 : Try.prog.cellsOf 111 = 1 := by kernel_rfl
instance : SzD Try.prog 111 1 := ⟨tZ_111⟩
theorem Zfu : ZgJ Try.prog 110 = some .nilFunc := by kernel_rfl
theorem ZiO : J8 Try.prog 90 = some [(0, 1), (1, 1), (2, 1), (3, 1)] := by kernel_rfl
theorem ZiC : Zce Try.prog 90 = true := by kernel_rfl
theorem Zbh : tAgg Try.prog 90 4 = true := by kernel_rfl
theorem Zlv : tFld Try.prog 90 0 0 = true := by kernel_rfl
theorem Zld : tFld Try.prog 90 1 1 = true := by kernel_rfl
theorem Zlc : tFld Try.prog 90 2 2 = true := by kernel_rfl
theorem Zku : ZjV Try.prog 90 3 3 = true := by kernel_rfl
theorem ZkV : J8 Try.prog 73 = some [(0, 1), (1, 1), (2, 1), (3, 1)] := by kernel_rfl
theorem ZkS : Zce Try.prog 73 = true := by kernel_rfl
theorem Zmd : XA Try.prog 73 = some [.int .i64 0, .int .i64 0, .int .i64 0, .bool false] := by kernel_rfl
theorem Zko : tSl Try.prog 69 73 4 32 = true := by kernel_rfl
theorem tZ_73 : Try.prog.cellsOf 73 = 4 := by kernel_rfl
instance : SzD Try.prog 73 4 := ⟨tZ_73⟩
theorem Zml : tAgg Try.prog 73 4 = true := by kernel_rfl
theorem ZlJ : ZcO Try.prog 73 [.i .i64, .i .i64, .i .i64, .b] = true := by kernel_rfl
def gl0 : Gl := ⟨0, []⟩
def R64 (x : api_Part) : List AV := [.int .i64 x.Frame, .int .i64 x.Word, .int .i64 x.Low, .int .i64 x.Bits]
def R9 (x : Str) : List AV := [.str x]
def R44 (x : api_Param) : List AV := [.str x.Name, .int .i64 x.Kind, .sl 64 (List.map R64 x.Parts), .int .i64 x.First, .int .i64 x.Every, .int .i64 x.Times, .int .i64 x.Step, .sl 9 (List.map R9 x.Names)]
def R3 (x : Int) : List AV := [.int .i64 x]
theorem D3 (x : Int) : (R3 x).length = Try.prog.cellsOf 3 ∧ (R3 x).all datB = true := ⟨tZ_3.symm, rfl⟩
instance : RowD Try.prog 3 R3 := ⟨D3⟩
def R59 (x : api_Place) : List AV := [.int .i64 x.Frame, .int .i64 x.Word, .int .i64 x.Low, .int .i64 x.Bits]
theorem D59 (x : api_Place) : (R59 x).length = Try.prog.cellsOf 59 ∧ (R59 x).all datB = true := ⟨tZ_59.symm, rfl⟩
instance : RowD Try.prog 59 R59 := ⟨D59⟩
def R34 (x : api_Cell) : List AV := [.int .i64 x.Param, .int .i64 x.Index, .int .i64 x.Frame, .sl 59 (List.map R59 x.Places)]
theorem D34 (x : api_Cell) : (R34 x).length = Try.prog.cellsOf 34 ∧ (R34 x).all datB = true := ⟨tZ_34.symm, rfl⟩
instance : RowD Try.prog 34 R34 := ⟨D34⟩
def Xu (x : layout_bit) : AV := .agg [.int .i64 x.frame, .int .i64 x.word, .int .i64 x.bit]
theorem Zk1 : KeyOK Try.prog 63 Xu kq_layout_bit := Zil Zl6 (fun _ => rfl)
def FV3 (x : Int) : AV := .int .i64 x
def R63 (x : layout_bit) : List AV := [.int .i64 x.frame, .int .i64 x.word, .int .i64 x.bit]
theorem D63 (x : layout_bit) : (R63 x).length = Try.prog.cellsOf 63 ∧ (R63 x).all datB = true := ⟨tZ_63.symm, rfl⟩
instance : RowD Try.prog 63 R63 := ⟨D63⟩
def C3 (x : Int) : AV := .int .i64 x
def Q7 (x : Vector Int 3) : AV := .agg (List.map C3 x.toList)
theorem ZjT : KeyOK Try.prog 108 Q7 kqV := ZkK (fun _ => rfl) Zlb
def FV4 (x : Bool) : AV := .bool x
theorem ZlT : Zls Try.prog 36 ((List.replicate 16 ([.i .i64])).flatten) := ⟨by kernel_rfl, by kernel_rfl, by kernel_rfl⟩
def C65 (x : List Int) : AV := .sl 3 (List.map R3 x)
def FK3 (x : Int) : AV := .int .i64 x
theorem ZfP : KeyOK Try.prog 3 FK3 kqI := Zkm (fun _ => rfl) tI3
def ZbG (x : Fv (Int → Option Int)) : Prop := x.c.all datB = true ∧ ∀ z0 r, x.fn z0 = some r → CSpec Try.prog gl0 x.f ([.int .i64 z0] ++ x.c) (.int .i64 r)
def ZbF (x : Fv (Int → Option (Int × Bool))) : Prop := x.c.all datB = true ∧ ∀ z0 r, x.fn z0 = some r → CSpec Try.prog gl0 x.f ([.int .i64 z0] ++ x.c) (.tuple [.int .i64 r.1, .bool r.2])
def R73 (x : api_Reading) : List AV := [.int .i64 x.Param, .int .i64 x.Index, .int .i64 x.Value, .bool x.Good]
theorem D73 (x : api_Reading) : (R73 x).length = Try.prog.cellsOf 73 ∧ (R73 x).all datB = true := ⟨tZ_73.symm, rfl⟩
instance : RowD Try.prog 73 R73 := ⟨D73⟩
theorem Z6 {n : Int} {low : Int} {high : Int} {r : Bool} (h : ZU n low high = some r) :
 CSpec Try.prog gl0 37 [.int .i64 n, .int .i64 low, .int .i64 high] (.bool r) := by
 unfold ZU at h
 replace h := Qh h
 refine So Try.func37 Y fun w0 A=>Tr<|Ra Y<|Za<|Tr<|Rm Y<|Rm Y<|R2 Zb1 Y<|Rm Y<|Rq Y (.guarded ((decide (low ≤ n)) == true) Y Y Y Y fun h => Zv<|ov Y)<|Rq Y (.guarded ((decide (low ≤ n)) == true) Y Y Y Y fun h => Zv<|ov Y)<|Rq Y (.guarded ((decide (low ≤ n)) == true) Y Y Y Y fun h => Zgx (ow Y h)<|ow Y h)<|Rq Y (Jc (ov Y) fun hp=>ow Y<|gT hp)<|Ra Y<|Za<|?_
 obtain rfl := rt h
 exact Zi (Zs Y (.one<|rb Y))
theorem Zki {s : Str} {f : Int → Option Bool} {r : Bool} {f_f : FuncId} {f_c : List AV} (f_d : f_c.all datB = true) (f_h : ∀ (z0 : Int) z, f z0 = some z → CSpec Try.prog gl0 f_f ([.int .i32 z0] ++ f_c) (.bool z)) (h : JG s f = some r) :
    CSpec Try.prog gl0 82 [.str s, .fn f_f f_c] (.bool r) :=
  ZfK (by kernel_rfl) (fun g lb eg p s w hp => Any.strings_ContainsFunc_grows Try.laysGw17 g lb eg p s w hp) f_d f_h h
theorem Zee {c_ : Int} {r : Bool} (h : Zah c_ = some r) :
 CSpec Try.prog gl0 83 [.int .i32 c_] (.bool r) := by
 unfold Zah at h
 replace h := Qh h
 refine So Try.func83 Y fun w0 A=>Tr<|Ra Y<|Za<|Tr<|Rm Y<|R2 Zb1 Y<|Rm Y<|Rq Y (.guarded ((decide (97 ≤ c_)) == true) Y Y Y Y fun h => Zv<|ov Y)<|Rq Y (.guarded ((decide (97 ≤ c_)) == true) Y Y Y Y fun h => Zgx (ow Y h)<|ov Y)<|Rq Y (Jc (ov Y) fun hp=>ow Y<|gT hp)<|Rm Y<|Rq Y (.guarded (((decide (97 ≤ c_)) && (decide (c_ ≤ 122))) == false) Y Y Y Y fun h => Zv<|ov Y)<|Rq Y (.guarded (((decide (97 ≤ c_)) && (decide (c_ ≤ 122))) == false) Y Y Y Y fun h => Zb1 (ow Y h)<|ov Y)<|Rq Y (.guarded (((decide (97 ≤ c_)) && (decide (c_ ≤ 122))) == false) Y Y Y Y fun h => Zv<|ow Y h)<|Rq Y (.guarded2 ((((decide (97 ≤ c_)) && (decide (c_ ≤ 122))) == false) && ((decide (48 ≤ c_)) == true)) Y Y Y Y fun h => Zv<|ov Y)<|Rq Y (.guarded2 ((((decide (97 ≤ c_)) && (decide (c_ ≤ 122))) == false) && ((decide (48 ≤ c_)) == true)) Y Y Y Y fun h => Zgx (ow Y h)<|ov Y)<|Rq Y (.guarded (((decide (97 ≤ c_)) && (decide (c_ ≤ 122))) == false) Y Y Y Y fun h => Jc (ow Y h) fun hp=>ow Y<|gA h<|gT hp)<|Rq Y (XQ (ov Y) fun hp=>ow Y<|gF hp)<|Rm Y<|Rq Y (.guarded ((((decide (97 ≤ c_)) && (decide (c_ ≤ 122))) || ((decide (48 ≤ c_)) && (decide (c_ ≤ 57)))) == false) Y Y Y Y fun h => Zv<|ov Y)<|Rq Y (.guarded ((((decide (97 ≤ c_)) && (decide (c_ ≤ 122))) || ((decide (48 ≤ c_)) && (decide (c_ ≤ 57)))) == false) Y Y Y Y fun h => Xa (ow Y h)<|ov Y)<|Rq Y (XQ (ov Y) fun hp=>ow Y<|gF hp)<|R1 XN Y<|Ra Y<|Za<|?_
 obtain rfl := rt h
 exact Zi (Zs Y (.one<|rb Y))
theorem ZcC {s : Str} {r : Bool} (h : XI s = some r) :
 CSpec Try.prog gl0 53 [.str s] (.bool r) := by
 unfold XI at h
 replace h := Qh h
 refine So Try.func53 Y fun w0 A=>Tr<|Ra Y<|Za<|Zh<|K1 0 Y<|Tr<|Rm Y<|Rq Y (Zds (ov Y) ZfG Y)<|R2 ZK Y<|Rm Y<|Rq Y (.guarded ((decide ((s.length : Int) < 1)) == false) Y Y Y Y fun h => Zv<|ov Y)<|Rq Y (.guarded ((decide ((s.length : Int) < 1)) == false) Y Y Y Y fun h => Zds (ow Y h) ZfG Y)<|Rq Y (.guarded ((decide ((s.length : Int) < 1)) == false) Y Y Y Y fun h => Jj (ow Y h)<|ov Y)<|Rq Y (XQ (ov Y) fun hp=>ow Y<|gF hp)<|Rm Y<|Rq Y (.guarded (((decide ((s.length : Int) < 1)) || (decide (30 < (s.length : Int)))) == false) Y Y Y Y fun h => Zv<|ov Y)<|bE h fun b h_b h=>Rq Y (.guarded (((decide ((s.length : Int) < 1)) || (decide (30 < (s.length : Int)))) == false) Y Y Y Y fun h => Zf3 (ow Y h) (ov Y) ZfG<|gdT h_b h)<|Rq Y (.guarded (((decide ((s.length : Int) < 1)) || (decide (30 < (s.length : Int)))) == false) Y Y Y Y fun h => ZK (ow Y h)<|ov Y)<|Rq Y (XQ (ov Y) fun hp=>ow Y<|gF hp)<|Rm Y<|Rq Y (.guarded ((((decide ((s.length : Int) < 1)) || (decide (30 < (s.length : Int)))) || (decide (b < 97))) == false) Y Y Y Y fun h => Zv<|ov Y)<|bE h fun b2 h_b2 h=>Rq Y (.guarded ((((decide ((s.length : Int) < 1)) || (decide (30 < (s.length : Int)))) || (decide (b < 97))) == false) Y Y Y Y fun h => Zf3 (ow Y h) (ov Y) ZfG<|gdT h_b2 h)<|Rq Y (.guarded ((((decide ((s.length : Int) < 1)) || (decide (30 < (s.length : Int)))) || (decide (b < 97))) == false) Y Y Y Y fun h => Jj (ow Y h)<|ov Y)<|Rq Y (XQ (ov Y) fun hp=>ow Y<|gF hp)<|Za<|K2 0 20 Y<|If h Y (fun h=>?_) fun h=>?_
 ·
  refine K0<|Tr<|Ra Y<|Za<|?_
  obtain rfl := rt h
  exact Zi (Zs Y (.one<|rb Y))
 ·
  refine Ze<|K1 0 Y<|Tr<|Rm Y<|bE h fun y h_y h=>Rq Y (Zp (Zki Y (fun z0 _ hz=>Zee hz) h_y)<|.cons (ov Y) (.b Y)<|.cons (ov Y) .fn .nil)<|R1 XN Y<|Ra Y<|Za<|?_
  obtain rfl := rt h
  exact Zi (Zs Y (.one<|rb Y))
theorem JO {p : api_Param} {r : Int} (h : Qu p = some r) :
 CSpec Try.prog gl0 48 [.agg [.str p.Name, .int .i64 p.Kind, .sl 64 (List.map R64 p.Parts), .int .i64 p.First, .int .i64 p.Every, .int .i64 p.Times, .int .i64 p.Step, .sl 9 (List.map R9 p.Names)]] (.int .i64 r) := by
 unfold Qu at h
 replace h := Qh h
 refine So Try.func48 Y fun w0 A=>Tr<|Rq Y (Z9 (cva<|ov Y) Y tZ_44 Y)<|Ra Y<|Za<|K1 1 Y<|Tr<|Ra Y<|Za<|I1 (fun n=>⟨[(3, .int .i64 n)], []⟩) h (fun h=>?_) fun n h=>?_
 ·
  refine Tr<|Rq Y (Zc (ov Y) ZaL)<|Rq Y (Zb (ov Y) ZeH Y)<|Rl tZ_64 ZbB Y<|Rm Y<|Za<|Zf<|?_
  obtain ⟨r1, hl1, ho1⟩ := QS h
  refine L2 (fun n2 i=>⟨[(3, .int .i64 n2), (7, .sl 64 (List.map R64 p.Parts)), (8, .int .i64 (p.Parts.length : Int)), (9, .int .i64 i)], []⟩) hl1 (ES []) fun n1 n2 i h=>?_
  unfold QA at h
  refine Tr<|R2 ZK Y<|Za<|Zh<|If h Y (fun h=>?_) fun h=>?_
  ·
   exact Ze<|Zh<|Zf<|K4 3 7 8 9 Y<|Tr<|bE h fun x h_x h=>Rq Y (ZF (ov Y) (ov Y) ZbB h_x)<|Rq Y (Zg (ov Y) Zcr Y Y)<|Rx Y (Zr (row := [_, _, _, _]) 0 Y ZgF Y tZ_64)<|Rx Y (Zk (ov Y) (ov Y) (Zj Zcr Y) Y Y Y (Nat.le_of_ble_eq_true Y) (Zd Y) Y)<|Za<|K5 3 5 7 8 9 Y<|ZA<|Rm Y<|Rq Y (Zm (ov Y) Y Y Zfe)<|Rq Y (Zl (ov Y) Y Y Y tS3 Y)<|R2 Qk Y<|Ra Y<|Za<|K4 3 7 8 9 Y<|ZA<|R2 Qk Y<|Rm Y<|Za<|⟨_, h, ES []⟩
  ·
   refine ZE<|?_
   replace h := lx h ▸ ho1
   exact ⟨_, h, ES []⟩
 ·
  refine Tr<|Rm Y<|Ra Y<|Za<|?_
  obtain rfl := rt h
  exact Zi (Zs Y (.one<|rb Y))
theorem ZcA {s : List Int} {v : Int} {r : Int} (h : QC s v = some r) :
 CSpec Try.prog gl0 88 [.sl 3 (List.map R3 s), .int .i64 v] (.int .i64 r) := by
 unfold QC at h
 replace h := Qh h
 refine So Try.func88 Y fun w0 A=>Tr<|Ra Y<|Za<|J0 (fun j => (.inr j)) ⟨[], []⟩ h (fun h=>?_) fun h=>?_
 ·
  refine K2 0 1 Y<|Tr<|Rm Y<|Rl tZ_3 ZaN Y<|Rm Y<|Za<|Zf<|?_
  obtain ⟨r1, hl1, ho1⟩ := QS h
  refine L1 (fun i=>⟨[(0, .sl 3 (List.map R3 s)), (1, .int .i64 v), (7, .int .i64 (s.length : Int)), (8, .int .i64 i)], []⟩) hl1 (ES []) fun n1 i h=>?_
  unfold ZO at h
  refine Tr<|R2 ZK Y<|Za<|Zh<|If h Y (fun h=>?_) fun h=>?_
  ·
   refine Ze<|Zh<|Zf<|K4 0 1 7 8 Y<|Tr<|Rm Y<|Ra Y<|Za<|K5 0 1 5 7 8 Y<|Tr<|Rm Y<|Rm Y<|Rm Y<|bE h fun x h_x h=>Rq Y (ZF (ov Y) (ov Y) ZaN h_x)<|Rq Y (Zb (ov Y) tS3 Y)<|R2 Xa Y<|Za<|K6 0 1 5 7 8 16 Y<|If h Y (fun h=>?_) fun h=>?_
   ·
    refine K1 5 Y<|Tr<|Rm Y<|Ra Y<|Za<|?_
    replace h := lx h ▸ ho1
    obtain rfl := rt h
    exact Zi (Zs Y (.one<|rb Y))
   ·
    exact Ze<|K4 0 1 7 8 Y<|ZA<|R2 Qk Y<|Rm Y<|Za<|⟨_, h, ES []⟩
  ·
   refine ZE<|?_
   replace h := lx h ▸ ho1
   exact ⟨(), h, ES []⟩
 ·
  replace h := elr h
  replace h := t0i h
  refine Tr<|Ra Y<|Za<|?_
  obtain rfl := rt h
  exact Zi (Zs Y (.one<|rb Y))
theorem Zb6 {s : List Int} {v : Int} {r : Bool} (h : Z0 s v = some r) :
 CSpec Try.prog gl0 84 [.sl 3 (List.map R3 s), .int .i64 v] (.bool r) := by
 unfold Z0 at h
 replace h := Qh h
 refine So Try.func84 Y fun w0 A=>Tr<|Ra Y<|Za<|Tr<|Rm Y<|Rm Y<|bE h fun y h_y h=>Rq Y (Zp (ZcA h_y)<|.cons (ov Y) (.b Y)<|.cons (ov Y) (.b Y) .nil)<|R2 Zb1 Y<|Ra Y<|Za<|?_
 obtain rfl := rt h
 exact Zi (Zs Y (.one<|rb Y))
theorem ZdH {p : api_Param} {r : Int} (h : QF p = some r) :
 CSpec Try.prog gl0 54 [.agg [.str p.Name, .int .i64 p.Kind, .sl 64 (List.map R64 p.Parts), .int .i64 p.First, .int .i64 p.Every, .int .i64 p.Times, .int .i64 p.Step, .sl 9 (List.map R9 p.Names)]] (.int .i64 r) := by
 unfold QF at h
 replace h := Qh h
 refine So Try.func54 Y fun w0 A=>Tr<|Rq Y (Z9 (cva<|ov Y) Y tZ_44 Y)<|Ra Y<|Za<|Zh<|Zf<|K1 1 Y<|Tr<|Rq Y (Zc (ov Y) ZaL)<|Rq Y (Zb (ov Y) ZeH Y)<|Rl tZ_64 ZbB Y<|R2 Xa Y<|Ra Y<|Za<|K2 1 8 Y<|If h Y (fun h=>?_) fun h=>?_
 ·
  refine K0<|Tr<|Ra Y<|Za<|?_
  obtain rfl := rt h
  exact Zi (Zs Y (.one<|rb Y))
 ·
  refine K1 1 Y<|Tr<|Rq Y (Zc (ov Y) ZaL)<|Rq Y (Zb (ov Y) ZeH Y)<|Rl tZ_64 ZbB Y<|R2 Jj Y<|Ra Y<|Za<|K2 1 13 Y<|If h Y (fun h=>?_) fun h=>?_
  ·
   refine K0<|Tr<|Ra Y<|Za<|?_
   obtain rfl := rt h
   exact Zi (Zs Y (.one<|rb Y))
  ·
   refine Ze<|J0 (fun j => (.inr j)) ⟨[(1, .rp [.str p.Name, .int .i64 p.Kind, .sl 64 (List.map R64 p.Parts), .int .i64 p.First, .int .i64 p.Every, .int .i64 p.Times, .int .i64 p.Step, .sl 9 (List.map R9 p.Names)] 0)], []⟩ h (fun h=>?_) fun h=>?_
   ·
    refine K1 1 Y<|Tr<|Rq Y (Zc (ov Y) ZaL)<|Rq Y (Zb (ov Y) ZeH Y)<|Rl tZ_64 ZbB Y<|Rm Y<|Za<|Zf<|?_
    obtain ⟨r1, hl1, ho1⟩ := QS h
    refine L1 (fun i=>⟨[(1, .rp [.str p.Name, .int .i64 p.Kind, .sl 64 (List.map R64 p.Parts), .int .i64 p.First, .int .i64 p.Every, .int .i64 p.Times, .int .i64 p.Step, .sl 9 (List.map R9 p.Names)] 0), (19, .sl 64 (List.map R64 p.Parts)), (20, .int .i64 (p.Parts.length : Int)), (21, .int .i64 i)], []⟩) hl1 (ES []) fun n1 i h=>?_
    unfold ZS at h
    refine Tr<|R2 ZK Y<|Za<|Zh<|If h Y (fun h=>?_) fun h=>?_
    ·
     refine Ze<|Zh<|Zf<|K4 1 19 20 21 Y<|Tr<|bE h fun x h_x h=>Rq Y (ZF (ov Y) (ov Y) ZbB h_x)<|Rq Y (Zg (ov Y) Zcr Y Y)<|Rx Y (Zr (row := [_, _, _, _]) 0 Y ZgF Y tZ_64)<|Rx Y (Zk (ov Y) (ov Y) (Zj Zcr Y) Y Y Y (Nat.le_of_ble_eq_true Y) (Zd Y) Y)<|Za<|K5 1 4 19 20 21 Y<|Tr<|Rq Y (Zm (ov Y) Y Y Zfj)<|Rq Y (Zl (ov Y) Y Y Y tS3 Y)<|bE h fun y h_y h=>Rq Y (Zp (Z6 h_y)<|.cons (ov Y) (.b Y)<|.cons (ov Y) (.b Y)<|.cons (ov Y) (.b Y) .nil)<|R1 XN Y<|Rm Y<|Rq Y (.guarded ((!y) == false) Y Y Y Y fun h => Zm (ov Y) Y Y Zfp)<|Rq Y (.guarded ((!y) == false) Y Y Y Y fun h => Zl (ow Y h) Y Y Y tS3 Y)<|bE h fun y2 h_y2 h=>Rq Y (.guarded ((!y) == false) Y Y Y Y fun h => Zp (Z6<|gdT h_y2 h)<|.cons (ow Y h) (.b Y)<|.cons (ov Y) (.b Y)<|.cons (ov Y) (.b Y) .nil)<|Rq Y (.guarded ((!y) == false) Y Y Y Y fun h => XN<|ow Y h)<|Rq Y (XQ (ov Y) fun hp=>ow Y<|gF hp)<|Rm Y<|Rq Y (.guarded (((!y) || (!y2)) == false) Y Y Y Y fun h => Zm (ov Y) Y Y Zfm)<|Rq Y (.guarded (((!y) || (!y2)) == false) Y Y Y Y fun h => Zl (ow Y h) Y Y Y tS3 Y)<|bE h fun y3 h_y3 h=>Rq Y (.guarded (((!y) || (!y2)) == false) Y Y Y Y fun h => Zp (Z6<|gdT h_y3 h)<|.cons (ow Y h) (.b Y)<|.cons (ov Y) (.b Y)<|.cons (ov Y) (.b Y) .nil)<|Rq Y (.guarded (((!y) || (!y2)) == false) Y Y Y Y fun h => XN<|ow Y h)<|Rq Y (XQ (ov Y) fun hp=>ow Y<|gF hp)<|Rm Y<|Rq Y (.guarded ((((!y) || (!y2)) || (!y3)) == false) Y Y Y Y fun h => Zm (ov Y) Y Y Zfe)<|Rq Y (.guarded ((((!y) || (!y2)) || (!y3)) == false) Y Y Y Y fun h => Zl (ow Y h) Y Y Y tS3 Y)<|Rq Y (.guarded ((((!y) || (!y2)) || (!y3)) == false) Y Y Y Y fun h => Zm (ov Y) Y Y Zfm)<|Rq Y (.guarded ((((!y) || (!y2)) || (!y3)) == false) Y Y Y Y fun h => Zl (ow Y h) Y Y Y tS3 Y)<|Rq Y (.guarded ((((!y) || (!y2)) || (!y3)) == false) Y Y Y Y fun h => ZgW (ov Y) (ow Y h) Y)<|bE h fun y4 h_y4 h=>Rq Y (.guarded ((((!y) || (!y2)) || (!y3)) == false) Y Y Y Y fun h => Zp (Z6<|gdT h_y4 h)<|.cons (ow Y h) (.b Y)<|.cons (ov Y) (.b Y)<|.cons (ow Y h) (.b Y) .nil)<|Rq Y (.guarded ((((!y) || (!y2)) || (!y3)) == false) Y Y Y Y fun h => XN<|ow Y h)<|Rq Y (XQ (ov Y) fun hp=>ow Y<|gF hp)<|Za<|K5 1 19 20 21 49 Y<|If h Y (fun h=>?_) fun h=>?_
     ·
      refine K0<|Tr<|Ra Y<|Za<|?_
      replace h := lx h ▸ ho1
      obtain rfl := rt h
      exact Zi (Zs Y (.one<|rb Y))
     ·
      exact Ze<|K4 1 19 20 21 Y<|ZA<|R2 Qk Y<|Rm Y<|Za<|⟨_, h, ES []⟩
    ·
     refine ZE<|?_
     replace h := lx h ▸ ho1
     exact ⟨(), h, ES []⟩
   ·
    replace h := elr h
    replace h := t0i h
    refine Zh<|Tr<|Rq Y (Zg (ov Y) Xy Y Y)<|bE h fun y5 h_y5 h=>Rq Y (Zp (JO h_y5)<|.cons (ov Y) (.aggB Y) .nil)<|R2 Jj Y<|Za<|K2 1 53 Y<|If h Y (fun h=>?_) fun h=>?_
    ·
     refine K0<|Tr<|Ra Y<|Za<|?_
     obtain rfl := rt h
     exact Zi (Zs Y (.one<|rb Y))
    ·
     refine Ze<|K1 1 Y<|Tr<|R_q (.sl 3<|List.map R3 ([1, 2, 4, 8, 16] : List Int)) Y (ZdG ZaN (.cons (cvs (ov Y)<|Zq Y) Y (.cons (.b Y) .nil)<|.cons (cvs (ov Y)<|Zq Y) Y (.cons (.b Y) .nil)<|.cons (cvs (ov Y)<|Zq Y) Y (.cons (.b Y) .nil)<|.cons (cvs (ov Y)<|Zq Y) Y (.cons (.b Y) .nil)<|.cons (cvs (ov Y)<|Zq Y) Y (.cons (.b Y) .nil) .nil) Y Y)<|Rq Y (Zc (ov Y) Ze9)<|Rq Y (Zb (ov Y) tS3 Y)<|bE h fun y6 h_y6 h=>Rq Y (Zp (Zb6 h_y6)<|.cons (ov Y) (.b Y)<|.cons (ov Y) (.b Y) .nil)<|Ra Y<|Za<|Zh<|K2 1 5 Y<|Tr<|Rm Y<|R1 XN Y<|Rm Y<|Rq Y (.guarded ((!y6) == false) Y Y Y Y fun h => Zc (ov Y) Zg9)<|Rq Y (.guarded ((!y6) == false) Y Y Y Y fun h => Zb (ow Y h) tS3 Y)<|Rq Y (.guarded ((!y6) == false) Y Y Y Y fun h => Zc (ov Y) Ze9)<|Rq Y (.guarded ((!y6) == false) Y Y Y Y fun h => Zb (ow Y h) tS3 Y)<|Rq Y (.guarded ((!y6) == false) Y Y Y Y fun h => ZgW (ow Y h) (ov Y) Y)<|bE h fun y7 h_y7 h=>Rq Y (.guarded ((!y6) == false) Y Y Y Y fun h => Zp (Z6<|gdT h_y7 h)<|.cons (ow Y h) (.b Y)<|.cons (ov Y) (.b Y)<|.cons (ow Y h) (.b Y) .nil)<|Rq Y (.guarded ((!y6) == false) Y Y Y Y fun h => XN<|ow Y h)<|Rq Y (XQ (ov Y) fun hp=>ow Y<|gF hp)<|Rm Y<|Rq Y (.guarded (((!y6) || (!y7)) == false) Y Y Y Y fun h => Zc (ov Y) Zcj)<|Rq Y (.guarded (((!y6) || (!y7)) == false) Y Y Y Y fun h => Zb (ow Y h) tS3 Y)<|bE h fun y8 h_y8 h=>Rq Y (.guarded (((!y6) || (!y7)) == false) Y Y Y Y fun h => Zp (Z6<|gdT h_y8 h)<|.cons (ow Y h) (.b Y)<|.cons (ov Y) (.b Y)<|.cons (ov Y) (.b Y) .nil)<|Rq Y (.guarded (((!y6) || (!y7)) == false) Y Y Y Y fun h => XN<|ow Y h)<|Rq Y (XQ (ov Y) fun hp=>ow Y<|gF hp)<|Rm Y<|Rq Y (.guarded ((((!y6) || (!y7)) || (!y8)) == false) Y Y Y Y fun h => Zc (ov Y) Zch)<|Rq Y (.guarded ((((!y6) || (!y7)) || (!y8)) == false) Y Y Y Y fun h => Zb (ow Y h) tS3 Y)<|Rq Y (.guarded ((((!y6) || (!y7)) || (!y8)) == false) Y Y Y Y fun h => ZK (ow Y h)<|ov Y)<|Rq Y (XQ (ov Y) fun hp=>ow Y<|gF hp)<|Rm Y<|Rq Y (.guarded (((((!y6) || (!y7)) || (!y8)) || (decide (p.Step < 0))) == false) Y Y Y Y fun h => Zc (ov Y) Zch)<|Rq Y (.guarded (((((!y6) || (!y7)) || (!y8)) || (decide (p.Step < 0))) == false) Y Y Y Y fun h => Zb (ow Y h) tS3 Y)<|Rq Y (.guarded (((((!y6) || (!y7)) || (!y8)) || (decide (p.Step < 0))) == false) Y Y Y Y fun h => Xa (ow Y h)<|ov Y)<|Rq Y (.guarded (((((!y6) || (!y7)) || (!y8)) || (decide (p.Step < 0))) == false) Y Y Y Y fun h => Zc (ov Y) Zcj)<|Rq Y (.guarded (((((!y6) || (!y7)) || (!y8)) || (decide (p.Step < 0))) == false) Y Y Y Y fun h => Zb (ow Y h) tS3 Y)<|Rq Y (.guarded (((((!y6) || (!y7)) || (!y8)) || (decide (p.Step < 0))) == false) Y Y Y Y fun h => Xa (ow Y h)<|ov Y)<|Rq Y (.guarded (((((!y6) || (!y7)) || (!y8)) || (decide (p.Step < 0))) == false) Y Y Y Y fun h => ZhM .neq (by simp) (ow Y h) (ow Y h) tB4)<|Rq Y (XQ (ov Y) fun hp=>ow Y<|gF hp)<|Za<|K2 1 88 Y<|If h Y (fun h=>?_) fun h=>?_
     ·
      refine K0<|Tr<|Ra Y<|Za<|?_
      obtain rfl := rt h
      exact Zi (Zs Y (.one<|rb Y))
     ·
      refine Ze<|J0 (fun j => (.inr j)) ⟨[], []⟩ h (fun h=>?_) fun h=>?_
      ·
       refine K1 1 Y<|Tr<|Rq Y (Zc (ov Y) ZaL)<|Rq Y (Zb (ov Y) ZeH Y)<|Rl tZ_64 ZbB Y<|Rm Y<|Za<|Zf<|?_
       obtain ⟨r2, hl2, ho2⟩ := QS h
       refine L1 (fun i2=>⟨[(1, .rp [.str p.Name, .int .i64 p.Kind, .sl 64 (List.map R64 p.Parts), .int .i64 p.First, .int .i64 p.Every, .int .i64 p.Times, .int .i64 p.Step, .sl 9 (List.map R9 p.Names)] 0), (90, .sl 64 (List.map R64 p.Parts)), (91, .int .i64 (p.Parts.length : Int)), (92, .int .i64 i2)], []⟩) hl2 (ES []) fun n2 i2 h=>?_
       unfold Qe at h
       refine Tr<|R2 ZK Y<|Za<|Zh<|If h Y (fun h=>?_) fun h=>?_
       ·
        refine Ze<|Zh<|Zf<|K4 1 90 91 92 Y<|Tr<|bE h fun x2 h_x2 h=>Rq Y (ZF (ov Y) (ov Y) ZbB h_x2)<|Rq Y (Zg (ov Y) Zcr Y Y)<|Rx Y (Zr (row := [_, _, _, _]) 0 Y ZgF Y tZ_64)<|Rx Y (Zk (ov Y) (ov Y) (Zj Zcr Y) Y Y Y (Nat.le_of_ble_eq_true Y) (Zd Y) Y)<|Za<|K5 1 7 90 91 92 Y<|Tr<|Rq Y (Zc (ov Y) Zch)<|Rq Y (Zb (ov Y) tS3 Y)<|R2 Jj Y<|Rm Y<|Rq Y (.guarded ((decide (60 < p.Step)) == false) Y Y Y Y fun h => Zm (ov Y) Y Y Zfp)<|Rq Y (.guarded ((decide (60 < p.Step)) == false) Y Y Y Y fun h => Zl (ow Y h) Y Y Y tS3 Y)<|Rq Y (.guarded ((decide (60 < p.Step)) == false) Y Y Y Y fun h => Zc (ov Y) Zcj)<|Rq Y (.guarded ((decide (60 < p.Step)) == false) Y Y Y Y fun h => Zb (ow Y h) tS3 Y)<|Rq Y (.guarded ((decide (60 < p.Step)) == false) Y Y Y Y fun h => ZgW (ow Y h) (ov Y) Y)<|Rq Y (.guarded ((decide (60 < p.Step)) == false) Y Y Y Y fun h => Zc (ov Y) Zch)<|Rq Y (.guarded ((decide (60 < p.Step)) == false) Y Y Y Y fun h => Zb (ow Y h) tS3 Y)<|Rq Y (.guarded ((decide (60 < p.Step)) == false) Y Y Y Y fun h => ZjH (ow Y h) (ow Y h) Y)<|Rq Y (.guarded ((decide (60 < p.Step)) == false) Y Y Y Y fun h => Zix (ow Y h) (ow Y h) Y)<|Rq Y (.guarded ((decide (60 < p.Step)) == false) Y Y Y Y fun h => Jj (ow Y h)<|ov Y)<|Rq Y (XQ (ov Y) fun hp=>ow Y<|gF hp)<|Za<|K5 1 90 91 92 110 Y<|If h Y (fun h=>?_) fun h=>?_
        ·
         refine K0<|Tr<|Ra Y<|Za<|?_
         replace h := lx h ▸ ho2
         obtain rfl := rt h
         exact Zi (Zs Y (.one<|rb Y))
        ·
         exact Ze<|K4 1 90 91 92 Y<|ZA<|R2 Qk Y<|Rm Y<|Za<|⟨_, h, ES []⟩
       ·
        refine ZE<|?_
        replace h := lx h ▸ ho2
        exact ⟨(), h, ES []⟩
      ·
       replace h := elr h
       replace h := t0i h
       refine Tr<|Ra Y<|Za<|?_
       obtain rfl := rt h
       exact Zi (Zs Y (.one<|rb Y))
theorem Zbx {s : List Str} {v : Str} {r : Int} (h : Z1 s v = some r) :
 CSpec Try.prog gl0 89 [.sl 9 (List.map R9 s), .str v] (.int .i64 r) := by
 unfold Z1 at h
 replace h := Qh h
 refine So Try.func89 Y fun w0 A=>Tr<|Ra Y<|Za<|J0 (fun j => (.inr j)) ⟨[], []⟩ h (fun h=>?_) fun h=>?_
 ·
  refine K2 0 1 Y<|Tr<|Rm Y<|Rl tZ_9 ZcU Y<|Rm Y<|Za<|Zf<|?_
  obtain ⟨r1, hl1, ho1⟩ := QS h
  refine L1 (fun i=>⟨[(0, .sl 9 (List.map R9 s)), (1, .str v), (7, .int .i64 (s.length : Int)), (8, .int .i64 i)], []⟩) hl1 (ES []) fun n1 i h=>?_
  unfold ZC at h
  refine Tr<|R2 ZK Y<|Za<|Zh<|If h Y (fun h=>?_) fun h=>?_
  ·
   refine Ze<|Zh<|Zf<|K4 0 1 7 8 Y<|Tr<|Rm Y<|Ra Y<|Za<|K5 0 1 5 7 8 Y<|Tr<|Rm Y<|Rm Y<|Rm Y<|bE h fun x h_x h=>Rq Y (ZF (ov Y) (ov Y) ZcU h_x)<|Rq Y (Zb (ov Y) tS9 Y)<|R2 ZeV Y<|Za<|K6 0 1 5 7 8 16 Y<|If h Y (fun h=>?_) fun h=>?_
   ·
    refine K1 5 Y<|Tr<|Rm Y<|Ra Y<|Za<|?_
    replace h := lx h ▸ ho1
    obtain rfl := rt h
    exact Zi (Zs Y (.one<|rb Y))
   ·
    exact Ze<|K4 0 1 7 8 Y<|ZA<|R2 Qk Y<|Rm Y<|Za<|⟨_, h, ES []⟩
  ·
   refine ZE<|?_
   replace h := lx h ▸ ho1
   exact ⟨(), h, ES []⟩
 ·
  replace h := elr h
  replace h := t0i h
  refine Tr<|Ra Y<|Za<|?_
  obtain rfl := rt h
  exact Zi (Zs Y (.one<|rb Y))
theorem ZaE {s : List Str} {v : Str} {r : Bool} (h : ZJ s v = some r) :
 CSpec Try.prog gl0 85 [.sl 9 (List.map R9 s), .str v] (.bool r) := by
 unfold ZJ at h
 replace h := Qh h
 refine So Try.func85 Y fun w0 A=>Tr<|Ra Y<|Za<|Tr<|Rm Y<|Rm Y<|bE h fun y h_y h=>Rq Y (Zp (Zbx h_y)<|.cons (ov Y) (.b Y)<|.cons (ov Y) (.b Y) .nil)<|R2 Zb1 Y<|Ra Y<|Za<|?_
 obtain rfl := rt h
 exact Zi (Zs Y (.one<|rb Y))
theorem Zdk {p : api_Param} {r : Int} (h : QI p = some r) :
 CSpec Try.prog gl0 55 [.agg [.str p.Name, .int .i64 p.Kind, .sl 64 (List.map R64 p.Parts), .int .i64 p.First, .int .i64 p.Every, .int .i64 p.Times, .int .i64 p.Step, .sl 9 (List.map R9 p.Names)]] (.int .i64 r) := by
 unfold QI at h
 replace h := Qh h
 refine So Try.func55 Y fun w0 A=>Tr<|Rq Y (Z9 (cva<|ov Y) Y tZ_44 Y)<|Ra Y<|Za<|K1 1 Y<|Tr<|Rq Y (Zg (ov Y) Xy Y Y)<|bE h fun y h_y h=>Rq Y (Zp (JO h_y)<|.cons (ov Y) (.aggB Y) .nil)<|Ra Y<|Za<|Zh<|K2 1 3 Y<|Tr<|Rq Y (Zc (ov Y) Zbk)<|Rq Y (Zb (ov Y) tS3 Y)<|R2 Xa Y<|Rm Y<|Rq Y (.guarded ((decide (p.Kind = 4)) == true) Y Y Y Y fun h => Zv<|ov Y)<|bE h fun q h_q h=>Rq Y (.guarded ((decide (p.Kind = 4)) == true) Y Y Y Y fun h => Zim (ow Y h) (ov Y)<|gdT h_q h)<|Rq Y (.guarded ((decide (p.Kind = 4)) == true) Y Y Y Y fun h => QY (ow Y h)<|ov Y)<|Rq Y (Jc (ov Y) fun hp=>ow Y<|gT hp)<|Rm Y<|Rq Y (.guarded (((decide (p.Kind = 4)) && (!decide (q = 0))) == false) Y Y Y Y fun h => Zc (ov Y) Zbk)<|Rq Y (.guarded (((decide (p.Kind = 4)) && (!decide (q = 0))) == false) Y Y Y Y fun h => Zb (ow Y h) tS3 Y)<|Rq Y (.guarded (((decide (p.Kind = 4)) && (!decide (q = 0))) == false) Y Y Y Y fun h => Xa (ow Y h)<|ov Y)<|Rq Y (.guarded (((decide (p.Kind = 4)) && (!decide (q = 0))) == false) Y Y Y Y fun h => Zv<|ow Y h)<|Rq Y (.guarded2 ((((decide (p.Kind = 4)) && (!decide (q = 0))) == false) && ((decide (p.Kind = 5)) == true)) Y Y Y Y fun h => Zv<|ov Y)<|Rq Y (.guarded2 ((((decide (p.Kind = 4)) && (!decide (q = 0))) == false) && ((decide (p.Kind = 5)) == true)) Y Y Y Y fun h => QY (ow Y h)<|ov Y)<|Rq Y (.guarded (((decide (p.Kind = 4)) && (!decide (q = 0))) == false) Y Y Y Y fun h => Jc (ow Y h) fun hp=>ow Y<|gA h<|gT hp)<|Rq Y (XQ (ov Y) fun hp=>ow Y<|gF hp)<|Rm Y<|Rq Y (.guarded ((((decide (p.Kind = 4)) && (!decide (q = 0))) || ((decide (p.Kind = 5)) && (!decide (y = 1)))) == false) Y Y Y Y fun h => Zc (ov Y) Zbk)<|Rq Y (.guarded ((((decide (p.Kind = 4)) && (!decide (q = 0))) || ((decide (p.Kind = 5)) && (!decide (y = 1)))) == false) Y Y Y Y fun h => Zb (ow Y h) tS3 Y)<|Rq Y (.guarded ((((decide (p.Kind = 4)) && (!decide (q = 0))) || ((decide (p.Kind = 5)) && (!decide (y = 1)))) == false) Y Y Y Y fun h => Xa (ow Y h)<|ov Y)<|Rq Y (.guarded ((((decide (p.Kind = 4)) && (!decide (q = 0))) || ((decide (p.Kind = 5)) && (!decide (y = 1)))) == false) Y Y Y Y fun h => Zv<|ow Y h)<|Rq Y (.guarded2 (((((decide (p.Kind = 4)) && (!decide (q = 0))) || ((decide (p.Kind = 5)) && (!decide (y = 1)))) == false) && ((decide (p.Kind = 2)) == false)) Y Y Y Y fun h => Zc (ov Y) Zbk)<|Rq Y (.guarded2 (((((decide (p.Kind = 4)) && (!decide (q = 0))) || ((decide (p.Kind = 5)) && (!decide (y = 1)))) == false) && ((decide (p.Kind = 2)) == false)) Y Y Y Y fun h => Zb (ow Y h) tS3 Y)<|Rq Y (.guarded2 (((((decide (p.Kind = 4)) && (!decide (q = 0))) || ((decide (p.Kind = 5)) && (!decide (y = 1)))) == false) && ((decide (p.Kind = 2)) == false)) Y Y Y Y fun h => Xa (ow Y h)<|ov Y)<|Rq Y (.guarded ((((decide (p.Kind = 4)) && (!decide (q = 0))) || ((decide (p.Kind = 5)) && (!decide (y = 1)))) == false) Y Y Y Y fun h => XQ (ow Y h) fun hp=>ow Y<|gA h<|gF hp)<|Rq Y (.guarded ((((decide (p.Kind = 4)) && (!decide (q = 0))) || ((decide (p.Kind = 5)) && (!decide (y = 1)))) == false) Y Y Y Y fun h => Zv<|ow Y h)<|Rq Y (.guarded2 (((((decide (p.Kind = 4)) && (!decide (q = 0))) || ((decide (p.Kind = 5)) && (!decide (y = 1)))) == false) && (((decide (p.Kind = 2)) || (decide (p.Kind = 3))) == true)) Y Y Y Y fun h => Zv<|ov Y)<|Rq Y (.guarded2 (((((decide (p.Kind = 4)) && (!decide (q = 0))) || ((decide (p.Kind = 5)) && (!decide (y = 1)))) == false) && (((decide (p.Kind = 2)) || (decide (p.Kind = 3))) == true)) Y Y Y Y fun h => Xa (ow Y h)<|ov Y)<|Rq Y (.guarded ((((decide (p.Kind = 4)) && (!decide (q = 0))) || ((decide (p.Kind = 5)) && (!decide (y = 1)))) == false) Y Y Y Y fun h => Jc (ow Y h) fun hp=>ow Y<|gA h<|gT hp)<|Rq Y (XQ (ov Y) fun hp=>ow Y<|gF hp)<|Za<|K3 1 3 38 Y<|If h Y (fun h=>?_) fun h=>?_
 ·
  refine K0<|Tr<|Ra Y<|Za<|?_
  obtain rfl := rt h
  exact Zi (Zs Y (.one<|rb Y))
 ·
  refine Ze<|Zh<|K2 1 3 Y<|Tr<|Rq Y (Zc (ov Y) Zbk)<|Rq Y (Zb (ov Y) tS3 Y)<|R2 QY Y<|Za<|K3 1 3 41 Y<|If h Y (fun h=>?_) fun h=>?_
  ·
   refine Zh<|K1 1 Y<|Tr<|Rq Y (Zc (ov Y) Za9)<|Rq Y (Zb (ov Y) Zfa Y)<|Rl tZ_9 ZcU Y<|R2 Jj Y<|Za<|K1 45 Y<|If h Y (fun h=>?_) fun h=>?_
   ·
    refine K0<|Tr<|Ra Y<|Za<|?_
    obtain rfl := rt h
    exact Zi (Zs Y (.one<|rb Y))
   ·
    refine Ze<|K0<|Tr<|Ra Y<|Za<|?_
    obtain rfl := rt h
    exact Zi (Zs Y (.one<|rb Y))
  ·
   refine Ze<|Zh<|Zf<|K2 1 3 Y<|Tr<|Rq Y (Zc (ov Y) Za9)<|Rq Y (Zb (ov Y) Zfa Y)<|Rl tZ_9 ZcU Y<|R2 Xa Y<|Ra Y<|Za<|K3 1 3 46 Y<|If h Y (fun h=>?_) fun h=>?_
   ·
    refine K0<|Tr<|Ra Y<|Za<|?_
    obtain rfl := rt h
    exact Zi (Zs Y (.one<|rb Y))
   ·
    refine K2 1 3 Y<|Td md0<|Dq 0 Y (Zc (ov Y) Za9)<|Dq 1 Y (Zb (ov Y) Zfa Y)<|Dq 2 Y (Zd8 (X4 (ov Y) tZ_9) ZcU<|Zbm _ _)<|D2 3 Jj Y<|D1 4 Zv Y<|Dq 5 Y (.guarded ((decide (64 < (p.Names.length : Int))) == false) Y Y Y Y fun h => Zc (ov Y) Za9)<|Dq 6 Y (.guarded ((decide (64 < (p.Names.length : Int))) == false) Y Y Y Y fun h => Zb (ow Y h) Zfa Y)<|Dq 7 Y (.guarded ((decide (64 < (p.Names.length : Int))) == false) Y Y Y Y fun h => Zd8 (X4 (ow Y h) tZ_9) ZcU<|Zbm _ _)<|Dq 8 Y (.guarded ((decide (64 < (p.Names.length : Int))) == false) Y Y Y Y fun h => Zv<|ov Y)<|bE h fun q2 h_q2 h=>Dq 9 Y (.guarded ((decide (64 < (p.Names.length : Int))) == false) Y Y Y Y fun h => Zdx (ov Y) (ow Y h)<|gdT h_q2 h)<|Dq 10 Y (.guarded ((decide (64 < (p.Names.length : Int))) == false) Y Y Y Y fun h => Jj (ow Y h)<|ow Y h)<|Dq 11 Y (XQ (ov Y) fun hp=>ow Y<|gF hp)<|D1 12 Jk Y<|Dd<|K2 1 51 Y<|If h Y (fun h=>?_) fun h=>?_
    ·
     refine K0<|Tr<|Ra Y<|Za<|?_
     obtain rfl := rt h
     exact Zi (Zs Y (.one<|rb Y))
    ·
     refine Ze<|J0 (fun j => (.inr j)) ⟨[], []⟩ h (fun h=>?_) fun h=>?_
     ·
      refine K1 1 Y<|Tr<|Rq Y (Zc (ov Y) Za9)<|Rq Y (Zb (ov Y) Zfa Y)<|Rl tZ_9 ZcU Y<|Rm Y<|Za<|Zf<|?_
      obtain ⟨r1, hl1, ho1⟩ := QS h
      refine L1 (fun i=>⟨[(1, .rp [.str p.Name, .int .i64 p.Kind, .sl 64 (List.map R64 p.Parts), .int .i64 p.First, .int .i64 p.Every, .int .i64 p.Times, .int .i64 p.Step, .sl 9 (List.map R9 p.Names)] 0), (65, .sl 9 (List.map R9 p.Names)), (66, .int .i64 (p.Names.length : Int)), (67, .int .i64 i)], []⟩) hl1 (ES []) fun n1 i h=>?_
      unfold Qg at h
      refine Tr<|R2 ZK Y<|Za<|Zh<|If h Y (fun h=>?_) fun h=>?_
      ·
       refine Ze<|Zh<|Zf<|K4 1 65 66 67 Y<|Tr<|Rm Y<|bE h fun x h_x h=>Rq Y (ZF (ov Y) (ov Y) ZcU h_x)<|Rq Y (Zb (ov Y) tS9 Y)<|Ra Y<|Ra Y<|Za<|Zh<|K6 1 4 5 65 66 67 Y<|Tr<|Rm Y<|bE h fun y2 h_y2 h=>Rq Y (Zp (ZcC h_y2)<|.cons (ov Y) (.b Y) .nil)<|R1 XN Y<|Za<|K7 1 4 5 65 66 67 74 Y<|If h Y (fun h=>?_) fun h=>?_
       ·
        refine K0<|Tr<|Ra Y<|Za<|?_
        replace h := lx h ▸ ho1
        obtain rfl := rt h
        exact Zi (Zs Y (.one<|rb Y))
       ·
        refine Ze<|K6 1 4 5 65 66 67 Y<|Tr<|Rq Y (Zc (ov Y) Za9)<|Rq Y (Zb (ov Y) Zfa Y)<|Rm Y<|bE h fun l h_l h=>Rq Y (ZeA (ov Y) ZcU on (oi<|ov Y) h_l)<|Rm Y<|bE h fun y3 h_y3 h=>Rq Y (Zp (ZaE h_y3)<|.cons (ov Y) (.b Y)<|.cons (ov Y) (.b Y) .nil)<|Za<|K5 1 65 66 67 80 Y<|If h Y (fun h=>?_) fun h=>?_
        ·
         refine K0<|Tr<|Ra Y<|Za<|?_
         replace h := lx h ▸ ho1
         obtain rfl := rt h
         exact Zi (Zs Y (.one<|rb Y))
        ·
         exact Ze<|K4 1 65 66 67 Y<|ZA<|R2 Qk Y<|Rm Y<|Za<|⟨_, h, ES []⟩
      ·
       refine ZE<|?_
       replace h := lx h ▸ ho1
       exact ⟨(), h, ES []⟩
     ·
      replace h := elr h
      replace h := t0i h
      refine Tr<|Ra Y<|Za<|?_
      obtain rfl := rt h
      exact Zi (Zs Y (.one<|rb Y))
theorem JI {s : List api_Part} {f : api_Part → Option Bool} {r : Int} {f_f : FuncId} {f_c : List AV} (f_d : f_c.all datB = true) (f_h : ∀ (z0 : api_Part) z, f z0 = some z → CSpec Try.prog gl0 f_f ([.agg [.int .i64 z0.Frame, .int .i64 z0.Word, .int .i64 z0.Low, .int .i64 z0.Bits]] ++ f_c) (.bool z)) (h : ZI s f = some r) :
 CSpec Try.prog gl0 86 [.sl 64 (List.map R64 s), .fn f_f f_c] (.int .i64 r) := by
 unfold ZI at h
 replace h := Qh h
 refine So Try.func86 Y fun w0 A=>Tr<|Ra Y<|Za<|J0 (fun j => (.inr j)) ⟨[], []⟩ h (fun h=>?_) fun h=>?_
 ·
  refine K2 0 1 Y<|Tr<|Rm Y<|Rl tZ_64 ZbB Y<|Rm Y<|Za<|Zf<|?_
  obtain ⟨r1, hl1, ho1⟩ := QS h
  refine L1 (fun i=>⟨[(0, .sl 64 (List.map R64 s)), (1, .fn f_f f_c), (7, .int .i64 (s.length : Int)), (8, .int .i64 i)], []⟩) hl1 (ES []<|sd 0 Y Y<|sr 1 Y (rFn<|rld f_d)<|sd 7 Y Y<|sd 8 Y Y sn) fun n1 i h=>?_
  unfold Zx at h
  refine Tr<|R2 ZK Y<|Za<|Zh<|If h Y (fun h=>?_) fun h=>?_
  ·
   refine Ze<|Zh<|Zf<|K4 0 1 7 8 Y<|Tr<|Rm Y<|Ra Y<|Za<|K5 0 1 5 7 8 Y<|Tr<|Rm Y<|Rm Y<|Rm Y<|bE h fun x h_x h=>Rq Y (ZF (ov Y) (ov Y) ZbB h_x)<|Rq Y (Zg (ov Y) Zcr Y Y)<|bE h fun y h_y h=>Rq Y (X7 (ov Y) f_d (f_h _ _ h_y)<|.cons (ov Y) (.aggB Y) .nil)<|Za<|K6 0 1 5 7 8 16 Y<|If h Y (fun h=>?_) fun h=>?_
   ·
    refine K1 5 Y<|Tr<|Rm Y<|Ra Y<|Za<|?_
    replace h := lx h ▸ ho1
    obtain rfl := rt h
    exact Zi (Zs Y (.one<|rb Y))
   ·
    exact Ze<|K4 0 1 7 8 Y<|ZA<|R2 Qk Y<|Rm Y<|Za<|⟨_, h, ES []<|sd 0 Y Y<|sr 1 Y (rFn<|rld f_d)<|sd 7 Y Y<|sd 8 Y Y sn⟩
  ·
   refine ZE<|?_
   replace h := lx h ▸ ho1
   exact ⟨(), h, ES []⟩
 ·
  replace h := elr h
  replace h := t0i h
  refine Tr<|Ra Y<|Za<|?_
  obtain rfl := rt h
  exact Zi (Zs Y (.one<|rb Y))
theorem Jr {s : List api_Part} {f : api_Part → Option Bool} {r : Bool} {f_f : FuncId} {f_c : List AV} (f_d : f_c.all datB = true) (f_h : ∀ (z0 : api_Part) z, f z0 = some z → CSpec Try.prog gl0 f_f ([.agg [.int .i64 z0.Frame, .int .i64 z0.Word, .int .i64 z0.Low, .int .i64 z0.Bits]] ++ f_c) (.bool z)) (h : Zw s f = some r) :
 CSpec Try.prog gl0 61 [.sl 64 (List.map R64 s), .fn f_f f_c] (.bool r) := by
 unfold Zw at h
 replace h := Qh h
 refine So Try.func61 Y fun w0 A=>Tr<|Ra Y<|Za<|Tr<|Rm Y<|Rm Y<|bE h fun y h_y h=>Rq Y (Zp (JI f_d f_h h_y)<|.cons (ov Y) (.b Y)<|.cons (ov Y) (Dat.fnC<|.refl fun x hx => .b<|List.all_eq_true.1 f_d x hx) .nil)<|R2 Zb1 Y<|Ra Y<|Za<|?_
 obtain rfl := rt h
 exact Zi (Zs Y (.one<|rb Y))
theorem Zes {x : api_Part} {c0 : Int} {r : Bool} (h : QO x c0 = some r) :
 CSpec Try.prog gl0 62 [.agg [.int .i64 x.Frame, .int .i64 x.Word, .int .i64 x.Low, .int .i64 x.Bits], .rp [.int .i64 c0] 0] (.bool r) := by
 unfold QO at h
 replace h := Qh h
 refine So Try.func62 Y fun w0 A=>Tr<|Rq Y (Z9 (cva<|ov Y) Y tZ_64 Y)<|Ra Y<|Za<|K3 1 2 3 Y<|Tr<|Rq Y (Zb (ov Y) tS3 Y)<|Rq Y (Zc (ov Y) Zfj)<|Rq Y (Zb (ov Y) tS3 Y)<|R2 Qk Y<|R2 Zb1 Y<|Ra Y<|Za<|?_
 obtain rfl := rt h
 exact Zi (Zs Y (.one<|rb Y))
theorem Zcs {p : api_Param} {r : (List Int)} (h : Xg p = some r) :
 CSpec Try.prog gl0 39 [.agg [.str p.Name, .int .i64 p.Kind, .sl 64 (List.map R64 p.Parts), .int .i64 p.First, .int .i64 p.Every, .int .i64 p.Times, .int .i64 p.Step, .sl 9 (List.map R9 p.Names)]] (.sl 3 (List.map R3 r)) := by
 unfold Xg at h
 replace h := Qh h
 refine So Try.func39 Y fun w0 A=>Tr<|Rq Y (Z9 (cva<|ov Y) Y tZ_44 Y)<|Ra Y<|Za<|K1 1 Y<|Tr<|Ra Y<|Za<|I1 (fun out=>⟨[(3, .own 0 out.length)], [some ⟨3, List.map R3 out⟩]⟩) h (fun h=>?_) fun out h=>?_
 ·
  refine Tr<|Rq Y (Zc (ov Y) Zg9)<|Rq Y (Zb (ov Y) tS3 Y)<|Rx Y (Zr (row := [_]) 0 Y tZ3 Y tZ_3)<|Rx Y (Zk (ov Y) (ov Y) (Qm tS3) Y Y Y (Nat.le_of_ble_eq_true Y) (Zd Y) Y)<|Za<|Zf<|?_
  obtain ⟨r1, hl1, ho1⟩ := QS h
  refine L2 (fun out2 f=>⟨[(1, .rp [.str p.Name, .int .i64 p.Kind, .sl 64 (List.map R64 p.Parts), .int .i64 p.First, .int .i64 p.Every, .int .i64 p.Times, .int .i64 p.Step, .sl 9 (List.map R9 p.Names)] 0), (3, .own 0 out2.length), (4, .ptr 1 1 0 0)], [some ⟨3, List.map R3 out2⟩, some ⟨3, [[.int .i64 f]]⟩]⟩) hl1 (ES [none, some 0]) fun n1 out2 f h=>?_
  unfold Z7 at h
  refine Zh<|Tr<|Rq Y (Zl (ov Y) Y Y Y tS3 Y)<|R2 ZK Y<|Za<|K4 1 3 4 8 Y<|If h Y (fun h=>?_) fun h=>?_
  ·
   refine Ze<|I1 (fun out3=>⟨[(1, .rp [.str p.Name, .int .i64 p.Kind, .sl 64 (List.map R64 p.Parts), .int .i64 p.First, .int .i64 p.Every, .int .i64 p.Times, .int .i64 p.Step, .sl 9 (List.map R9 p.Names)] 0), (3, .own 0 out3.length), (4, .rp [.int .i64 f] 0)], [some ⟨3, List.map R3 out3⟩]⟩) h (fun h=>?_) fun out3 h=>?_
   ·
    refine Zf<|K3 1 3 4 Y<|Tr<|Rq Y (Zc (ov Y) ZaL)<|Rq Y (Zb (ov Y) ZeH Y)<|Zea (Ent.sel [some 0, none] (sd 1 Y Y<|sr 3 Y (.own (r' := 0) _ Y)<|sr 4 Y (.frp ⟨Y, ⟨_, Y⟩, Y, Y⟩)<|sd 13 Y Y<|sd 14 Y Y sn) (.cons Y (roM D3)<|.row 3 .nil) Y Y)<|Rq Y (QK<|.cons (ov Y) .nil)<|bE h fun y h_y h=>Rq Y (Zp (Jr Y (fun z0 _ hz=>Zes hz) h_y)<|.cons (ov Y) (.b Y)<|.cons (ov Y) (.fnC<|.cons (.b Y) .nil) .nil)<|R1 XN Y<|Za<|K4 1 3 4 17 Y<|If h Y (fun h=>?_) fun h=>?_
    ·
     exact K3 1 3 4 Y<|ZA<|Rm Y<|Rq Y (Zb (ov Y) tS3 Y)<|R_q (.sl 3<|List.map R3 ([f] : List Int)) Y (ZdG ZaN (.cons (cvs (ov Y)<|Zq Y) Y (.cons (.b Y) .nil) .nil) Y Y)<|bE h fun l h_l h=>Rx Y (Zau (ov Y) (X4 (ov Y) tZ_3) ZaN Y Y Y (fun _=>Zd Y) Y h_l)<|Ra Y<|Za<|⟨_, h, ES [some 0]⟩
    ·
     exact Ze<|⟨_, h, ES [some 0]⟩
   ·
    exact Zh<|Tr<|Rq Y (Zb (ov Y) tS3 Y)<|Za<|ZA<|Rx Y (Zr (row := [_]) 1 Y tZ3 Y tZ_3)<|Rx Y (Zk (ov Y) (ov Y) (Qm tS3) Y Y Y (Nat.le_of_ble_eq_true Y) (Zd Y) Y)<|Za<|K3 1 3 4 Y<|ZA<|Rq Y (Zl (ov Y) Y Y Y tS3 Y)<|Rq Y (Zc (ov Y) Ze9)<|Rq Y (Zb (ov Y) tS3 Y)<|R2 Qk Y<|Rx Y (Zk (ov Y) (ov Y) (Qm tS3) Y Y Y (Nat.le_of_ble_eq_true Y) (Zd Y) Y)<|Za<|⟨_, h, ES [some 0, some 1]⟩
  ·
   refine ZE<|?_
   replace h := lx h ▸ ho1
   exact ⟨_, h, ES [some 0]⟩
 ·
  refine Tr<|Rm Y<|Ra Y<|Za<|?_
  obtain rfl := rt h
  exact Zi (Zs Y (.one<|.tmp Y<|View.ownM Y Y D3))
theorem Ze3 {p : api_Param} {x : api_Part} {f : Int} {j : Int} {r : api_Place} (h : Xn p x f j = some r) :
 CSpec Try.prog gl0 63 [.agg [.str p.Name, .int .i64 p.Kind, .sl 64 (List.map R64 p.Parts), .int .i64 p.First, .int .i64 p.Every, .int .i64 p.Times, .int .i64 p.Step, .sl 9 (List.map R9 p.Names)], .agg [.int .i64 x.Frame, .int .i64 x.Word, .int .i64 x.Low, .int .i64 x.Bits], .int .i64 f, .int .i64 j] (.agg [.int .i64 r.Frame, .int .i64 r.Word, .int .i64 r.Low, .int .i64 r.Bits]) := by
 unfold Xn at h
 replace h := Qh h
 refine So Try.func63 Y fun w0 A=>Tr<|Rq Y (Z9 (cva<|ov Y) Y tZ_44 Y)<|Rq Y (Z9 (cva<|ov Y) Y tZ_64 Y)<|Rx Y (Zr (row := [_, _, _, _]) 0 Y ZhT Y tZ_59)<|Za<|K5 2 3 4 5 8 Y<|Tr<|Rm Y<|Rq Y (Zc (ov Y) Zfj)<|Rq Y (Zb (ov Y) tS3 Y)<|R2 Qk Y<|Rq Y (Zc (ov Y) Zfp)<|Rq Y (Zb (ov Y) tS3 Y)<|Rm Y<|Rq Y (Zc (ov Y) Zch)<|Rq Y (Zb (ov Y) tS3 Y)<|R2 ZhR Y<|R2 Qk Y<|Rq Y (Zc (ov Y) Zfm)<|Rq Y (Zb (ov Y) tS3 Y)<|Rq Y (Zc (ov Y) Zfe)<|Rq Y (Zb (ov Y) tS3 Y)<|Rq Y (Jv (ys := [_, _, _, _]) Zk0 ZkX ZhT (.cons (cvs (ov Y)<|Zq Y)<|.cons (cvs (ov Y)<|Zq Y)<|.cons (cvs (ov Y)<|Zq Y)<|.cons (cvs (ov Y)<|Zq Y) .nil) Y)<|Rx Y (Zk (ov Y) (ov Y) (Zj Zeg Y) Y Y Y (Nat.le_of_ble_eq_true Y) (Zd Y) Y)<|Za<|?_
 obtain rfl := rt h
 exact Zi (Zs Y (.one<|.agg Y Y Y Y Zeg Y Y<|pwB Y))
theorem ZaX {number : Int} {p : api_Param} {r : (List api_Cell)} (h : Qv number p = some r) :
 CSpec Try.prog gl0 40 [.int .i64 number, .agg [.str p.Name, .int .i64 p.Kind, .sl 64 (List.map R64 p.Parts), .int .i64 p.First, .int .i64 p.Every, .int .i64 p.Times, .int .i64 p.Step, .sl 9 (List.map R9 p.Names)]] (.sl 34 (List.map R34 r)) := by
 unfold Qv at h
 replace h := Qh h
 refine So Try.func40 Y fun w0 A=>Tr<|Rq Y (Z9 (cva<|ov Y) Y tZ_44 Y)<|Ra Y<|Za<|K2 0 3 Y<|Tr<|Ra Y<|Za<|I1 (fun out=>⟨[(5, .own 0 out.length)], [some ⟨34, List.map R34 out⟩]⟩) h (fun h=>?_) fun out h=>?_
 ·
  refine Tr<|Rq Y (Zg (ov Y) Xy Y Y)<|bE h fun y h_y h=>Rq Y (Zp (Zcs h_y)<|.cons (ov Y) (.aggB Y) .nil)<|Rl tZ_3 ZaN Y<|Rm Y<|Za<|Zf<|?_
  obtain ⟨r1, hl1, ho1⟩ := QS h
  refine L2 (fun out2 i=>⟨[(0, .int .i64 number), (3, .rp [.str p.Name, .int .i64 p.Kind, .sl 64 (List.map R64 p.Parts), .int .i64 p.First, .int .i64 p.Every, .int .i64 p.Times, .int .i64 p.Step, .sl 9 (List.map R9 p.Names)] 0), (5, .own 0 out2.length), (13, .sl 3 (List.map R3 y)), (14, .int .i64 (y.length : Int)), (15, .int .i64 i)], [some ⟨34, List.map R34 out2⟩]⟩) hl1 (ES [none]) fun n1 out2 i h=>?_
  unfold Qo at h
  refine Tr<|R2 ZK Y<|Za<|Zh<|If h Y (fun h=>?_) fun h=>?_
  ·
   refine Ze<|I1 (fun out3=>⟨[(0, .int .i64 number), (3, .rp [.str p.Name, .int .i64 p.Kind, .sl 64 (List.map R64 p.Parts), .int .i64 p.First, .int .i64 p.Every, .int .i64 p.Times, .int .i64 p.Step, .sl 9 (List.map R9 p.Names)] 0), (5, .own 0 out3.length), (13, .sl 3 (List.map R3 y)), (14, .int .i64 (y.length : Int)), (15, .int .i64 i)], [some ⟨34, List.map R34 out3⟩]⟩) h (fun h=>?_) fun out3 h=>?_
   ·
    refine Zf<|K6 0 3 5 13 14 15 Y<|Tr<|bE h fun x h_x h=>Rq Y (ZF (ov Y) (ov Y) ZaN h_x)<|Rq Y (Zb (ov Y) tS3 Y)<|Ra Y<|Za<|K7 0 3 5 7 13 14 15 Y<|Tr<|Rq Y (Zc (ov Y) Zcj)<|Rq Y (Zb (ov Y) tS3 Y)<|Rm Y<|Za<|Zf<|?_
    obtain ⟨r2, hl2, ho2⟩ := QS h
    refine L2 (fun out4 i2=>⟨[(0, .int .i64 number), (3, .rp [.str p.Name, .int .i64 p.Kind, .sl 64 (List.map R64 p.Parts), .int .i64 p.First, .int .i64 p.Every, .int .i64 p.Times, .int .i64 p.Step, .sl 9 (List.map R9 p.Names)] 0), (5, .own 0 out4.length), (7, .int .i64 x), (13, .sl 3 (List.map R3 y)), (14, .int .i64 (y.length : Int)), (15, .int .i64 i), (20, .int .i64 p.Times), (21, .int .i64 i2)], [some ⟨34, List.map R34 out4⟩]⟩) hl2 (ES [some 0]) fun n2 out4 i2 h=>?_
    unfold XF at h
    refine Tr<|R2 ZK Y<|Za<|Zh<|If h Y (fun h=>?_) fun h=>?_
    ·
     refine Ze<|Zh<|Zf<|K9 0 3 5 7 13 14 15 20 21 Y<|Tr<|Rm Y<|Ra Y<|Za<|K10 0 3 5 7 8 13 14 15 20 21 Y<|Tr<|Rm Y<|Rm Y<|Rq Y (Zju (ov Y) Y Y Zar)<|Rm Y<|Rq Y (Jv (ys := [_, _, _, _]) Zk3 Zk4 Zfr (.cons (cvs (ov Y)<|Zq Y)<|.cons (cvs (ov Y)<|Zq Y)<|.cons (cvs (ov Y)<|Zq Y) .nil) Y)<|Rx Y (Zr (row := [_, _, _, _]) 1 Y Zfr Y tZ_34)<|Rx Y (Zk (ov Y) (ov Y) (Zj ZbD Y) Y Y Y (Nat.le_of_ble_eq_true Y) (Zd Y) Y)<|Za<|I1 (fun Places=>⟨[(0, .int .i64 number), (3, .rp [.str p.Name, .int .i64 p.Kind, .sl 64 (List.map R64 p.Parts), .int .i64 p.First, .int .i64 p.Every, .int .i64 p.Times, .int .i64 p.Step, .sl 9 (List.map R9 p.Names)] 0), (5, .own 0 out4.length), (7, .int .i64 x), (9, .ptr 1 1 0 0), (13, .sl 3 (List.map R3 y)), (14, .int .i64 (y.length : Int)), (15, .int .i64 i), (20, .int .i64 p.Times), (21, .int .i64 i2)], [some ⟨34, List.map R34 out4⟩, some ⟨34, [[.int .i64 number, .int .i64 (out4.length : Int), .int .i64 x, .own 2 Places.length]]⟩, some ⟨59, List.map R59 Places⟩]⟩) h (fun h=>?_) fun Places h=>?_
     ·
      refine K11 0 3 5 7 8 9 13 14 15 20 21 Y<|Tr<|Rq Y (Zc (ov Y) ZaL)<|Rq Y (Zb (ov Y) ZeH Y)<|Rl tZ_64 ZbB Y<|Rm Y<|Za<|Zf<|?_
      obtain ⟨r3, hl3, ho3⟩ := QS h
      refine L2 (fun Places2 i3=>⟨[(0, .int .i64 number), (3, .rp [.str p.Name, .int .i64 p.Kind, .sl 64 (List.map R64 p.Parts), .int .i64 p.First, .int .i64 p.Every, .int .i64 p.Times, .int .i64 p.Step, .sl 9 (List.map R9 p.Names)] 0), (5, .own 0 out4.length), (7, .int .i64 x), (8, .int .i64 i2), (9, .ptr 1 1 0 0), (13, .sl 3 (List.map R3 y)), (14, .int .i64 (y.length : Int)), (15, .int .i64 i), (20, .int .i64 p.Times), (21, .int .i64 i2), (30, .sl 64 (List.map R64 p.Parts)), (31, .int .i64 (p.Parts.length : Int)), (32, .int .i64 i3)], [some ⟨34, List.map R34 out4⟩, some ⟨34, [[.int .i64 number, .int .i64 (out4.length : Int), .int .i64 x, .own 2 Places2.length]]⟩, some ⟨59, List.map R59 Places2⟩]⟩) hl3 (ES [some 0, some 1, none]) fun n3 Places2 i3 h=>?_
      unfold Z2 at h
      refine Tr<|R2 ZK Y<|Za<|Zh<|If h Y (fun h=>?_) fun h=>?_
      ·
       exact Ze<|Zh<|Zf<|XR (kc 0 Y<|kc 3 Y<|kc 5 Y<|kc 7 Y<|kc 8 Y<|kc 9 Y<|kc 13 Y<|kc 14 Y<|kc 15 Y<|kc 20 Y<|kc 21 Y<|kc 30 Y<|kc 31 Y<|kc 32 Y kn) Y<|Tr<|bE h fun x2 h_x2 h=>Rq Y (ZF (ov Y) (ov Y) ZbB h_x2)<|Rq Y (Zg (ov Y) Zcr Y Y)<|Rx Y (Zr (row := [_, _, _, _]) 3 Y ZgF Y tZ_64)<|Rx Y (Zk (ov Y) (ov Y) (Zj Zcr Y) Y Y Y (Nat.le_of_ble_eq_true Y) (Zd Y) Y)<|Za<|XR (kc 0 Y<|kc 3 Y<|kc 5 Y<|kc 7 Y<|kc 8 Y<|kc 9 Y<|kc 11 Y<|kc 13 Y<|kc 14 Y<|kc 15 Y<|kc 20 Y<|kc 21 Y<|kc 30 Y<|kc 31 Y<|kc 32 Y kn) Y<|Zfo (cw := md0) (by kernel_rfl)<|Dq 0 Y (Zm (ov Y) Y Y Zbe)<|Dq 1 Y (Zl (ov Y) Y Y Y Zfn Y)<|Dq 2 Y (Zg (ov Y) Xy Y Y)<|Dq 3 Y (ZV (ov Y) Y Y Y Zcr Y Y)<|D1 4 Zv Y<|D1 5 Zv Y<|bE h fun y2 h_y2 h=>Dq 6 Y (Zp (Ze3 h_y2)<|.cons (ov Y) (.aggB Y)<|.cons (ov Y) (.aggB Y)<|.cons (ov Y) (.b Y)<|.cons (ov Y) (.b Y) .nil)<|ZkE 7 (.sl 59<|List.map R59 ([y2] : List api_Place)) Y (by kernel_rfl) Y Y (ZdG ZcW (.cons (cva<|ov Y) Y (pwD Y) .nil) Y Y)<|bE h fun l h_l h=>Do 8 Y (Zau (ov Y) (X4 (ov Y) tZ_59) ZcW Y Y Y (fun _=>Zd Y) Y h_l)<|Dq 9 Y (Zm (ov Y) Y Y Zbe)<|Do 10 Y (Zk (ov Y) (ov Y) (Qm Zfn) Y Y Y (Nat.le_of_ble_eq_true Y) (Zd Y) Y)<|Dd<|XR (kc 0 Y<|kc 3 Y<|kc 5 Y<|kc 7 Y<|kc 8 Y<|kc 9 Y<|kc 13 Y<|kc 14 Y<|kc 15 Y<|kc 20 Y<|kc 21 Y<|kc 30 Y<|kc 31 Y<|kc 32 Y kn) Y<|ZA<|R2 Qk Y<|Rm Y<|Za<|⟨_, h, ES [some 0, some 1, some 2]⟩
      ·
       refine ZE<|?_
       replace h := lx h ▸ ho3
       exact ⟨_, h, ES [some 0, some 1, some 2]⟩
     ·
      exact ZA<|Rm Y<|Rq Y (ZV (ov Y) Y Y Y ZbD Y Y)<|Zea (Ent.sel [some 0, some 1, none] (sd 0 Y Y<|sd 3 Y Y<|sr 5 Y (.own (r' := 0) _ Y)<|sd 7 Y Y<|sr 9 Y (.ptr (r' := 1) _ _ _ Y)<|sd 13 Y Y<|sd 14 Y Y<|sd 15 Y Y<|sd 20 Y Y<|sd 21 Y Y<|sr 47 Y (.own (r' := 0) _ Y)<|sr 48 Y (Xd<|rlc (.dat Y)<|rlc (.dat Y)<|rlc (.dat Y)<|rlc (Zkv Y Y Y D59) rln) sn) (.cons Y (roM D34)<|.cons Y (ro1 (by exact tZ_34.symm)<|rlc (.dat Y)<|rlc (.dat Y)<|rlc (.dat Y)<|rlc (Zkv Y Y Y D59) rln)<|.row 59 .nil) Y Y)<|R_q (.sl 34<|List.map R34 ([(api_Cell.mk number (out4.length : Int) x Places)] : List api_Cell)) Y (ZdG Zar (.cons (cva<|ov Y) Y (pwD Y) .nil) Y Y)<|bE h fun l2 h_l2 h=>Rx Y (Zau (ov Y) (X4 (ov Y) tZ_34) Zar Y Y Y (fun _=>Zd Y) Y h_l2)<|Ra Y<|Za<|K9 0 3 5 7 13 14 15 20 21 Y<|ZA<|R2 Qk Y<|Rm Y<|Za<|⟨_, h, ES [some 0]⟩
    ·
     refine ZE<|?_
     replace h := lx h ▸ ho2
     exact ⟨_, h, ES [some 0]⟩
   ·
    exact ZA<|R2 Qk Y<|Rm Y<|Za<|⟨_, h, ES [some 0]⟩
  ·
   refine ZE<|?_
   replace h := lx h ▸ ho1
   exact ⟨_, h, ES [some 0]⟩
 ·
  refine Tr<|Rm Y<|Ra Y<|Za<|?_
  obtain rfl := rt h
  exact Zi (Zs Y (.one<|.tmp Y<|View.ownM Y Y D34))
theorem Ze6 {x : api_Place} {r : (List layout_bit)} (h : XM x = some r) :
 CSpec Try.prog gl0 64 [.agg [.int .i64 x.Frame, .int .i64 x.Word, .int .i64 x.Low, .int .i64 x.Bits]] (.sl 63 (List.map R63 r)) := by
 unfold XM at h
 replace h := Qh h
 refine So Try.func64 Y fun w0 A=>Tr<|Rq Y (Z9 (cva<|ov Y) Y tZ_59 Y)<|Ra Y<|Za<|K1 1 Y<|Tr<|Ra Y<|Za<|I1 (fun out=>⟨[(3, .own 0 out.length)], [some ⟨63, List.map R63 out⟩]⟩) h (fun h=>?_) fun out h=>?_
 ·
  refine Tr<|Rq Y (Zc (ov Y) Zel)<|Rq Y (Zb (ov Y) tS3 Y)<|Rm Y<|Za<|Zf<|?_
  obtain ⟨r1, hl1, ho1⟩ := QS h
  refine L2 (fun out2 i=>⟨[(1, .rp [.int .i64 x.Frame, .int .i64 x.Word, .int .i64 x.Low, .int .i64 x.Bits] 0), (3, .own 0 out2.length), (6, .int .i64 x.Bits), (7, .int .i64 i)], [some ⟨63, List.map R63 out2⟩]⟩) hl1 (ES [none]) fun n1 out2 i h=>?_
  unfold QX at h
  refine Tr<|R2 ZK Y<|Za<|Zh<|If h Y (fun h=>?_) fun h=>?_
  ·
   exact Ze<|Zh<|Zf<|K4 1 3 6 7 Y<|Tr<|Rm Y<|Ra Y<|Za<|K5 1 3 4 6 7 Y<|ZA<|Rm Y<|Rq Y (Zc (ov Y) Zf7)<|Rq Y (Zb (ov Y) tS3 Y)<|Rq Y (Zc (ov Y) Zhe)<|Rq Y (Zb (ov Y) tS3 Y)<|Rq Y (Zc (ov Y) Zf5)<|Rq Y (Zb (ov Y) tS3 Y)<|Rm Y<|R2 Qk Y<|Rq Y (Jv (ys := [_, _, _]) Zl1 ZlZ Zln (.cons (cvs (ov Y)<|Zq Y)<|.cons (cvs (ov Y)<|Zq Y)<|.cons (cvs (ov Y)<|Zq Y) .nil) Y)<|R_q (.sl 63<|List.map R63 ([(layout_bit.mk x.Frame x.Word (i64 (x.Low + i)))] : List layout_bit)) Y (ZdG Zis (.cons (cva<|ov Y) Y (pwD Y) .nil) Y Y)<|bE h fun l h_l h=>Rx Y (Zau (ov Y) (X4 (ov Y) tZ_63) Zis Y Y Y (fun _=>Zd Y) Y h_l)<|Ra Y<|Za<|K4 1 3 6 7 Y<|ZA<|R2 Qk Y<|Rm Y<|Za<|⟨_, h, ES [some 0]⟩
  ·
   refine ZE<|?_
   replace h := lx h ▸ ho1
   exact ⟨_, h, ES [some 0]⟩
 ·
  refine Tr<|Rm Y<|Ra Y<|Za<|?_
  obtain rfl := rt h
  exact Zi (Zs Y (.one<|.tmp Y<|View.ownM Y Y D63))
theorem ZbT {taken : List (layout_bit × Int)} {owner : Int} {l : List api_Place} {r : Bool × (List (layout_bit × Int))} (h : XC taken owner l = some r) :
 GSpec Try.prog gl0 41 [.mref 0 1, .int .i64 owner, .sl 59 (List.map R59 l)] [some ⟨60, [[.mcon (List.map (Qz Xu FV3) taken)]]⟩] (.bool r.1) [some ⟨60, [[.mcon (List.map (Qz Xu FV3) r.2)]]⟩] := by
 unfold XC at h
 replace h := Qh h
 refine Zez (by kernel_rfl) Try.func41 Y Y<|?_
 intro w0 A W φ0
 refine Tr<|Ra Y<|Za<|J1 (fun j => (.inr j)) (fun o=>⟨[], [some ⟨60, [[.mcon (List.map (Qz Xu FV3) o)]]⟩]⟩) h (fun h=>?_) fun o h=>?_
 ·
  refine K3 0 1 2 Y<|Tr<|Rm Y<|Rl tZ_59 ZcW Y<|Rm Y<|Za<|Zf<|?_
  obtain ⟨r1, hl1, ho1⟩ := QS h
  refine L2 (fun o2 i=>⟨[(0, .mref 0 1), (1, .int .i64 owner), (13, .sl 59 (List.map R59 l)), (14, .int .i64 (l.length : Int)), (15, .int .i64 i)], [some ⟨60, [[.mcon (List.map (Qz Xu FV3) o2)]]⟩]⟩) hl1 (ES [some 0] (hhp := .cons Y (Qf (fk := Xu) (fv := FV3) (m := taken) tZ_60 (fun _=>Xd<|rld Y) fun _=>.ren<|.dat Y) .nil)) fun n1 o2 i h=>?_
  unfold QM at h
  refine Tr<|R2 ZK Y<|Za<|Zh<|If h Y (fun h=>?_) fun h=>?_
  ·
   refine Ze<|J1 (fun j => (.inr j)) (fun o3=>⟨[(0, .mref 0 1), (1, .int .i64 owner), (13, .sl 59 (List.map R59 l)), (14, .int .i64 (l.length : Int)), (15, .int .i64 i)], [some ⟨60, [[.mcon (List.map (Qz Xu FV3) o3)]]⟩]⟩) h (fun h=>?_) fun o3 h=>?_
   ·
    refine Zf<|K5 0 1 13 14 15 Y<|Tr<|bE h fun x h_x h=>Rq Y (ZF (ov Y) (ov Y) ZcW h_x)<|Rq Y (Zg (ov Y) Zeg Y Y)<|Rx Y (Zr (row := [_, _, _, _]) 1 Y ZhT Y tZ_59)<|Rx Y (Zk (ov Y) (ov Y) (Zj Zeg Y) Y Y Y (Nat.le_of_ble_eq_true Y) (Zd Y) Y)<|Za<|K6 0 1 8 13 14 15 Y<|Tr<|Rq Y (ZV (ov Y) Y Y Y Zeg Y Y)<|bE h fun y h_y h=>Rq Y (Zp (Ze6 h_y)<|.cons (ov Y) (.aggB Y) .nil)<|Rl tZ_63 Zis Y<|Rm Y<|Za<|Zf<|?_
    obtain ⟨r2, hl2, ho2⟩ := QS h
    refine L2 (fun o4 i2=>⟨[(0, .mref 0 1), (1, .int .i64 owner), (13, .sl 59 (List.map R59 l)), (14, .int .i64 (l.length : Int)), (15, .int .i64 i), (20, .sl 63 (List.map R63 y)), (21, .int .i64 (y.length : Int)), (22, .int .i64 i2)], [some ⟨60, [[.mcon (List.map (Qz Xu FV3) o4)]]⟩]⟩) hl2 (ES [some 0] (hhp := .cons Y (Qf (fk := Xu) (fv := FV3) (m := o2) tZ_60 (fun _=>Xd<|rld Y) fun _=>.ren<|.dat Y) .nil)) fun n2 o4 i2 h=>?_
    unfold QJ at h
    refine Tr<|R2 ZK Y<|Za<|Zh<|If h Y (fun h=>?_) fun h=>?_
    ·
     refine Ze<|Zh<|Zf<|K8 0 1 13 14 15 20 21 22 Y<|Tr<|bE h fun x2 h_x2 h=>Rq Y (ZF (ov Y) (ov Y) Zis h_x2)<|Rq Y (Zg (ov Y) Zjv Y Y)<|Rx Y (Zr (row := [_, _, _]) 1 Y Zln Y tZ_63)<|Rx Y (Zk (ov Y) (ov Y) (Zj Zjv Y) Y Y Y (Nat.le_of_ble_eq_true Y) (Zd Y) Y)<|Za<|Zh<|K9 0 1 10 13 14 15 20 21 22 Y<|Tr<|Rm Y<|Rq Y (ZV (ov Y) Y Y Y Zjv Y Y)<|bE h fun o5 h_o5 h=>Rq Y (ZlO (m := o4) (fk := Xu) (fv := FV3) (k := x2) (z0 := 0) (ov Y) (ov Y) ZgK Zk1 Y (fun _=>.aggB Y) (Zax Zmq Y) (fun _ _=>Y) h_o5)<|Rm Y<|Rq Y (Zy (ov Y) Y)<|Rq Y (Zy (ov Y) Y)<|Ra Y<|Ra Y<|Za<|K10 0 1 10 12 13 14 15 20 21 22 Y<|Tr<|Rm Y<|Za<|K10 0 1 10 13 14 15 20 21 22 32 Y<|If h Y (fun h=>?_) fun h=>?_
     ·
      refine K0<|Tr<|Ra Y<|Za<|?_
      replace h := lx h ▸ ho2
      replace h := lx h ▸ ho1
      obtain rfl := rt h
      exact Zi<|ZjC [some 0] Y (.cons (.tmp Y) .nil) (.cons Y (Qf (fk := Xu) (fv := FV3) (m := o4) tZ_60 (fun _=>Xd<|rld Y) fun _=>.ren<|.dat Y) .nil) Y Y<|.dat Y
     ·
      exact Ze<|K9 0 1 10 13 14 15 20 21 22 Y<|ZA<|Rm Y<|Rq Y (ZV (ov Y) Y Y Y Zjv Y Y)<|Rm Y<|Rx Y (Zf4 (m := o4) (fk := Xu) (fv := FV3) (k := x2) (v := owner) (ov Y) (ov Y) (ov Y) ZgK Zk1 Y fun _=>.aggB Y)<|Za<|K8 0 1 13 14 15 20 21 22 Y<|ZA<|R2 Qk Y<|Rm Y<|Za<|⟨_, h, ES [some 0] (hhp := .cons Y (Qf (fk := Xu) (fv := FV3) (m := (ZdY kq_layout_bit o4 x2 owner)) tZ_60 (fun _=>Xd<|rld Y) fun _=>.ren<|.dat Y) .nil)⟩
    ·
     refine ZE<|?_
     replace h := lx h ▸ ho2
     exact ⟨_, h, ES [some 0] (hhp := .cons Y (Qf (fk := Xu) (fv := FV3) (m := o4) tZ_60 (fun _=>Xd<|rld Y) fun _=>.ren<|.dat Y) .nil)⟩
   ·
    replace h := elr h
    replace h := t1i h
    exact ZA<|R2 Qk Y<|Rm Y<|Za<|⟨_, h, ES [some 0] (hhp := .cons Y (Qf (fk := Xu) (fv := FV3) (m := o3) tZ_60 (fun _=>Xd<|rld Y) fun _=>.ren<|.dat Y) .nil)⟩
  ·
   refine ZE<|?_
   replace h := lx h ▸ ho1
   exact ⟨_, h, ES [some 0] (hhp := .cons Y (Qf (fk := Xu) (fv := FV3) (m := o2) tZ_60 (fun _=>Xd<|rld Y) fun _=>.ren<|.dat Y) .nil)⟩
 ·
  replace h := elr h
  replace h := t1i h
  refine Tr<|Ra Y<|Za<|?_
  obtain rfl := rt h
  exact Zi<|ZjC [some 0] Y (.cons (.tmp Y) .nil) (.cons Y (Qf (fk := Xu) (fv := FV3) (m := o) tZ_60 (fun _=>Xd<|rld Y) fun _=>.ren<|.dat Y) .nil) Y Y<|.dat Y
theorem Zdh {p : api_Param} {r : Int} (h : QH p = some r) :
 CSpec Try.prog gl0 29 [.agg [.str p.Name, .int .i64 p.Kind, .sl 64 (List.map R64 p.Parts), .int .i64 p.First, .int .i64 p.Every, .int .i64 p.Times, .int .i64 p.Step, .sl 9 (List.map R9 p.Names)]] (.int .i64 r) := by
 unfold QH at h
 replace h := Qh h
 refine So Try.func29 Y fun w0 A=>Tr<|Rq Y (Z9 (cva<|ov Y) Y tZ_44 Y)<|Ra Y<|Za<|Zh<|K1 1 Y<|Tr<|Rq Y (Zc (ov Y) Zfv)<|Rq Y (Zb (ov Y) tS9 Y)<|bE h fun y h_y h=>Rq Y (Zp (ZcC h_y)<|.cons (ov Y) (.b Y) .nil)<|R1 XN Y<|Za<|K2 1 12 Y<|If h Y (fun h=>?_) fun h=>?_
 ·
  refine K0<|Tr<|Ra Y<|Za<|?_
  obtain rfl := rt h
  exact Zi (Zs Y (.one<|rb Y))
 ·
  refine Ze<|Zh<|K1 1 Y<|Tr<|Rq Y (Zc (ov Y) Zbk)<|Rq Y (Zb (ov Y) tS3 Y)<|bE h fun y2 h_y2 h=>Rq Y (Zp (Z6 h_y2)<|.cons (ov Y) (.b Y)<|.cons (ov Y) (.b Y)<|.cons (ov Y) (.b Y) .nil)<|R1 XN Y<|Za<|K2 1 16 Y<|If h Y (fun h=>?_) fun h=>?_
  ·
   refine K0<|Tr<|Ra Y<|Za<|?_
   obtain rfl := rt h
   exact Zi (Zs Y (.one<|rb Y))
  ·
   refine Ze<|Zh<|K1 1 Y<|Tr<|Rq Y (Zg (ov Y) Xy Y Y)<|bE h fun y3 h_y3 h=>Rq Y (Zp (ZdH h_y3)<|.cons (ov Y) (.aggB Y) .nil)<|Ra Y<|Za<|K2 1 3 Y<|Tr<|Rm Y<|R2 QY Y<|Za<|K3 1 3 20 Y<|If h Y (fun h=>?_) fun h=>?_
   ·
    refine K1 3 Y<|Tr<|Rm Y<|Ra Y<|Za<|?_
    obtain rfl := rt h
    exact Zi (Zs Y (.one<|rb Y))
   ·
    refine Ze<|Zh<|K1 1 Y<|Tr<|Rq Y (Zg (ov Y) Xy Y Y)<|bE h fun y4 h_y4 h=>Rq Y (Zp (Zdk h_y4)<|.cons (ov Y) (.aggB Y) .nil)<|Ra Y<|Za<|K2 1 4 Y<|Tr<|Rm Y<|R2 QY Y<|Za<|K3 1 4 25 Y<|If h Y (fun h=>?_) fun h=>?_
    ·
     refine K1 4 Y<|Tr<|Rm Y<|Ra Y<|Za<|?_
     obtain rfl := rt h
     exact Zi (Zs Y (.one<|rb Y))
    ·
     refine Ze<|K1 1 Y<|Tr<|Rx Y (ZbQ 0 Y ZgK)<|Ra Y<|Za<|K2 1 5 Y<|Tr<|Rq Y (Zg (ov Y) Xy Y Y)<|bE h fun y5 h_y5 h=>Rq Y (Zp (ZaX h_y5)<|.cons (ov Y) (.b Y)<|.cons (ov Y) (.aggB Y) .nil)<|Ra Y<|Za<|J0 (fun j => (.inr j)) ⟨[(6, .sl 34 (List.map R34 y5))], []⟩ h (fun h=>?_) fun h=>?_
     ·
      refine K2 5 6 Y<|Tr<|Rm Y<|Rl tZ_34 Zar Y<|Rm Y<|Za<|Zf<|?_
      obtain ⟨r1, hl1, ho1⟩ := QS h
      refine L2 (fun taken i=>⟨[(5, .mref 0 1), (6, .sl 34 (List.map R34 y5)), (30, .sl 34 (List.map R34 y5)), (31, .int .i64 (y5.length : Int)), (32, .int .i64 i)], [some ⟨60, [[.mcon (List.map (Qz Xu FV3) taken)]]⟩]⟩) hl1 (ES [some 0] (hhp := .cons Y (Qf (fk := Xu) (fv := FV3) (m := ([] : List (layout_bit × Int))) tZ_60 (fun _=>Xd<|rld Y) fun _=>.ren<|.dat Y) .nil)) fun n1 taken i h=>?_
      unfold Z3 at h
      refine Tr<|R2 ZK Y<|Za<|Zh<|If h Y (fun h=>?_) fun h=>?_
      ·
       refine Ze<|Zh<|Zf<|K5 5 6 30 31 32 Y<|Tr<|bE h fun x h_x h=>Rq Y (ZF (ov Y) (ov Y) Zar h_x)<|Rq Y (Zg (ov Y) ZbD Y Y)<|Rx Y (Zr (row := [_, _, _, _]) 1 Y Zfr Y tZ_34)<|Rx Y (Zk (ov Y) (ov Y) (Zj ZbD Y) Y Y Y (Nat.le_of_ble_eq_true Y) (Zd Y) Y)<|Za<|K6 5 6 8 30 31 32 Y<|Tr<|Rm Y<|Rq Y (Zm (ov Y) Y Y Zbe)<|Rq Y (Zl (ov Y) Y Y Y Zfn Y)<|bE h fun y6 h_y6 h=>Rx Y (ZcY [0] (ZbT h_y6) (.cons (ov Y) (.mref _ Y)<|.cons (ov Y) (.dat Y)<|.cons (ov Y) (.dat Y) .nil) (.cons Y (Qf (fk := Xu) (fv := FV3) (m := taken) tZ_60 (fun _=>Xd<|rld Y) fun _=>.ren<|.dat Y) .nil) Y (.lent 0 (.inl Y) Y (Qf (fk := Xu) (fv := FV3) (m := y6.2) tZ_60 (fun _=>Xd<|rld Y) fun _=>.ren<|.dat Y)<|.keep Y Y .nil) Y Y<|.dat Y)<|R1 XN Y<|Za<|K6 5 6 30 31 32 40 Y<|If h Y (fun h=>?_) fun h=>?_
       ·
        refine K0<|Tr<|Ra Y<|Za<|?_
        replace h := lx h ▸ ho1
        obtain rfl := rt h
        exact Zi (Zs Y (.one<|rb Y))
       ·
        exact Ze<|K5 5 6 30 31 32 Y<|ZA<|R2 Qk Y<|Rm Y<|Za<|⟨_, h, ES [some 0] (hhp := .cons Y (Qf (fk := Xu) (fv := FV3) (m := y6.2) tZ_60 (fun _=>Xd<|rld Y) fun _=>.ren<|.dat Y) .nil)⟩
      ·
       refine ZE<|?_
       replace h := lx h ▸ ho1
       exact ⟨(), h, ES []⟩
     ·
      replace h := elr h
      replace h := t0i h
      refine Zh<|Tr<|Rm Y<|Rl tZ_34 Zar Y<|R2 Xa Y<|Za<|K1 44 Y<|If h Y (fun h=>?_) fun h=>?_
      ·
       refine K0<|Tr<|Ra Y<|Za<|?_
       obtain rfl := rt h
       exact Zi (Zs Y (.one<|rb Y))
      ·
       refine Ze<|K0<|Tr<|Ra Y<|Za<|?_
       obtain rfl := rt h
       exact Zi (Zs Y (.one<|rb Y))
theorem Jx {s : List api_Param} {f : api_Param → Option Bool} {r : Int} {f_f : FuncId} {f_c : List AV} (f_d : f_c.all datB = true) (f_h : ∀ (z0 : api_Param) z, f z0 = some z → CSpec Try.prog gl0 f_f ([.agg [.str z0.Name, .int .i64 z0.Kind, .sl 64 (List.map R64 z0.Parts), .int .i64 z0.First, .int .i64 z0.Every, .int .i64 z0.Times, .int .i64 z0.Step, .sl 9 (List.map R9 z0.Names)]] ++ f_c) (.bool z)) (h : ZD s f = some r) :
 CSpec Try.prog gl0 56 [.sl 44 (List.map R44 s), .fn f_f f_c] (.int .i64 r) := by
 unfold ZD at h
 replace h := Qh h
 refine So Try.func56 Y fun w0 A=>Tr<|Ra Y<|Za<|J0 (fun j => (.inr j)) ⟨[], []⟩ h (fun h=>?_) fun h=>?_
 ·
  refine K2 0 1 Y<|Tr<|Rm Y<|Rl tZ_44 Za1 Y<|Rm Y<|Za<|Zf<|?_
  obtain ⟨r1, hl1, ho1⟩ := QS h
  refine L1 (fun i=>⟨[(0, .sl 44 (List.map R44 s)), (1, .fn f_f f_c), (7, .int .i64 (s.length : Int)), (8, .int .i64 i)], []⟩) hl1 (ES []<|sd 0 Y Y<|sr 1 Y (rFn<|rld f_d)<|sd 7 Y Y<|sd 8 Y Y sn) fun n1 i h=>?_
  unfold Zu at h
  refine Tr<|R2 ZK Y<|Za<|Zh<|If h Y (fun h=>?_) fun h=>?_
  ·
   refine Ze<|Zh<|Zf<|K4 0 1 7 8 Y<|Tr<|Rm Y<|Ra Y<|Za<|K5 0 1 5 7 8 Y<|Tr<|Rm Y<|Rm Y<|Rm Y<|bE h fun x h_x h=>Rq Y (ZF (ov Y) (ov Y) Za1 h_x)<|Rq Y (Zg (ov Y) Xy Y Y)<|bE h fun y h_y h=>Rq Y (X7 (ov Y) f_d (f_h _ _ h_y)<|.cons (ov Y) (.aggB Y) .nil)<|Za<|K6 0 1 5 7 8 16 Y<|If h Y (fun h=>?_) fun h=>?_
   ·
    refine K1 5 Y<|Tr<|Rm Y<|Ra Y<|Za<|?_
    replace h := lx h ▸ ho1
    obtain rfl := rt h
    exact Zi (Zs Y (.one<|rb Y))
   ·
    exact Ze<|K4 0 1 7 8 Y<|ZA<|R2 Qk Y<|Rm Y<|Za<|⟨_, h, ES []<|sd 0 Y Y<|sr 1 Y (rFn<|rld f_d)<|sd 7 Y Y<|sd 8 Y Y sn⟩
  ·
   refine ZE<|?_
   replace h := lx h ▸ ho1
   exact ⟨(), h, ES []⟩
 ·
  replace h := elr h
  replace h := t0i h
  refine Tr<|Ra Y<|Za<|?_
  obtain rfl := rt h
  exact Zi (Zs Y (.one<|rb Y))
theorem XW {s : List api_Param} {f : api_Param → Option Bool} {r : Bool} {f_f : FuncId} {f_c : List AV} (f_d : f_c.all datB = true) (f_h : ∀ (z0 : api_Param) z, f z0 = some z → CSpec Try.prog gl0 f_f ([.agg [.str z0.Name, .int .i64 z0.Kind, .sl 64 (List.map R64 z0.Parts), .int .i64 z0.First, .int .i64 z0.Every, .int .i64 z0.Times, .int .i64 z0.Step, .sl 9 (List.map R9 z0.Names)]] ++ f_c) (.bool z)) (h : Zt s f = some r) :
 CSpec Try.prog gl0 30 [.sl 44 (List.map R44 s), .fn f_f f_c] (.bool r) := by
 unfold Zt at h
 replace h := Qh h
 refine So Try.func30 Y fun w0 A=>Tr<|Ra Y<|Za<|Tr<|Rm Y<|Rm Y<|bE h fun y h_y h=>Rq Y (Zp (Jx f_d f_h h_y)<|.cons (ov Y) (.b Y)<|.cons (ov Y) (Dat.fnC<|.refl fun x hx => .b<|List.all_eq_true.1 f_d x hx) .nil)<|R2 Zb1 Y<|Ra Y<|Za<|?_
 obtain rfl := rt h
 exact Zi (Zs Y (.one<|rb Y))
theorem ZeI {q : api_Param} {c0 : api_Param} {r : Bool} (h : XP q c0 = some r) :
 CSpec Try.prog gl0 38 [.agg [.str q.Name, .int .i64 q.Kind, .sl 64 (List.map R64 q.Parts), .int .i64 q.First, .int .i64 q.Every, .int .i64 q.Times, .int .i64 q.Step, .sl 9 (List.map R9 q.Names)], .rp [.str c0.Name, .int .i64 c0.Kind, .sl 64 (List.map R64 c0.Parts), .int .i64 c0.First, .int .i64 c0.Every, .int .i64 c0.Times, .int .i64 c0.Step, .sl 9 (List.map R9 c0.Names)] 0] (.bool r) := by
 unfold XP at h
 replace h := Qh h
 refine So Try.func38 Y fun w0 A=>Tr<|Rq Y (Z9 (cva<|ov Y) Y tZ_44 Y)<|Ra Y<|Za<|K3 1 2 3 Y<|Tr<|Rq Y (Zc (ov Y) Zfv)<|Rq Y (Zb (ov Y) tS9 Y)<|Rq Y (Zc (ov Y) Zfv)<|Rq Y (Zb (ov Y) tS9 Y)<|R2 ZeV Y<|Ra Y<|Za<|?_
 obtain rfl := rt h
 exact Zi (Zs Y (.one<|rb Y))
theorem Je {m : api_Map} {r : Int × Int} (h : ZL m = some r) :
 CSpec Try.prog gl0 18 [.agg [.int .i64 m.Version, .sl 44 (List.map R44 m.Params)]] (.tuple [.int .i64 r.1, .int .i64 r.2]) := by
 unfold ZL at h
 replace h := Qh h
 refine So Try.func18 Y fun w0 A=>Tr<|Rq Y (Z9 (cva<|ov Y) Y tZ_24 Y)<|Ra Y<|Ra Y<|Za<|Zh<|K1 1 Y<|Tr<|Rq Y (Zc (ov Y) Zg8)<|Rq Y (Zb (ov Y) tS3 Y)<|bE h fun y h_y h=>Rq Y (Zp (Z6 h_y)<|.cons (ov Y) (.b Y)<|.cons (ov Y) (.b Y)<|.cons (ov Y) (.b Y) .nil)<|R1 XN Y<|Za<|K2 1 18 Y<|If h Y (fun h=>?_) fun h=>?_
 ·
  refine K0<|Tr<|Ra Y<|Ra Y<|Za<|?_
  obtain rfl := rt h
  exact Zi (Zs Y (.two (rb Y)<|rb Y))
 ·
  refine Ze<|Zh<|K1 1 Y<|Tr<|Rq Y (Zc (ov Y) Zap)<|Rq Y (Zb (ov Y) Zeu Y)<|Rl tZ_44 Za1 Y<|R2 Jj Y<|Za<|K2 1 22 Y<|If h Y (fun h=>?_) fun h=>?_
  ·
   refine K0<|Tr<|Ra Y<|Ra Y<|Za<|?_
   obtain rfl := rt h
   exact Zi (Zs Y (.two (rb Y)<|rb Y))
  ·
   refine Ze<|J0 (fun j => (.inr j)) ⟨[(1, .rp [.int .i64 m.Version, .sl 44 (List.map R44 m.Params)] 0)], []⟩ h (fun h=>?_) fun h=>?_
   ·
    refine K1 1 Y<|Tr<|Rq Y (Zc (ov Y) Zap)<|Rq Y (Zb (ov Y) Zeu Y)<|Rl tZ_44 Za1 Y<|Rm Y<|Za<|Zf<|?_
    obtain ⟨r1, hl1, ho1⟩ := QS h
    refine L1 (fun i=>⟨[(1, .rp [.int .i64 m.Version, .sl 44 (List.map R44 m.Params)] 0), (24, .sl 44 (List.map R44 m.Params)), (25, .int .i64 (m.Params.length : Int)), (26, .int .i64 i)], []⟩) hl1 (ES []) fun n1 i h=>?_
    unfold Xc at h
    refine Tr<|R2 ZK Y<|Za<|Zh<|If h Y (fun h=>?_) fun h=>?_
    ·
     refine Ze<|Zh<|Zf<|K4 1 24 25 26 Y<|Tr<|Rm Y<|bE h fun x h_x h=>Rq Y (ZF (ov Y) (ov Y) Za1 h_x)<|Rq Y (Zg (ov Y) Xy Y Y)<|Rx Y (Zr (row := [_, _, _, _, _, _, _, _]) 0 Y ZgG Y tZ_44)<|Ra Y<|Rx Y (Zk (ov Y) (ov Y) (Zj Xy Y) Y Y Y (Nat.le_of_ble_eq_true Y) (Zd Y) Y)<|Za<|Zh<|K6 1 4 5 24 25 26 Y<|Tr<|Rq Y (ZV (ov Y) Y Y Y Xy Y Y)<|bE h fun y2 h_y2 h=>Rq Y (Zp (Zdh h_y2)<|.cons (ov Y) (.aggB Y) .nil)<|Ra Y<|Za<|K7 1 4 5 6 24 25 26 Y<|Tr<|Rm Y<|R2 QY Y<|Za<|K8 1 4 5 6 24 25 26 34 Y<|If h Y (fun h=>?_) fun h=>?_
     ·
      refine K2 4 6 Y<|Tr<|Rm Y<|Rm Y<|Ra Y<|Ra Y<|Za<|?_
      replace h := lx h ▸ ho1
      obtain rfl := rt h
      exact Zi (Zs Y (.two (rb Y)<|rb Y))
     ·
      refine Ze<|K6 1 4 5 24 25 26 Y<|Tr<|Rq Y (Zc (ov Y) Zap)<|Rq Y (Zb (ov Y) Zeu Y)<|Rm Y<|bE h fun l h_l h=>Rq Y (ZeA (ov Y) Za1 on (oi<|ov Y) h_l)<|Zea (Ent.sel [none] (sd 1 Y Y<|sd 4 Y Y<|sr 5 Y (.frp ⟨Y, ⟨_, Y⟩, Y, Y⟩)<|sd 24 Y Y<|sd 25 Y Y<|sd 26 Y Y<|sd 37 Y Y<|sd 38 Y Y<|sd 39 Y Y<|sd 40 Y Y sn) (.row 44 .nil) Y Y)<|Rq Y (QK<|.cons (ov Y) .nil)<|bE h fun y3 h_y3 h=>Rq Y (Zp (XW Y (fun z0 _ hz=>ZeI hz) h_y3)<|.cons (ov Y) (.b Y)<|.cons (ov Y) (.fnC<|.cons (.b Y) .nil) .nil)<|Za<|K6 1 4 24 25 26 42 Y<|If h Y (fun h=>?_) fun h=>?_
      ·
       refine K1 4 Y<|Tr<|Rm Y<|Ra Y<|Ra Y<|Za<|?_
       replace h := lx h ▸ ho1
       obtain rfl := rt h
       exact Zi (Zs Y (.two (rb Y)<|rb Y))
      ·
       exact Ze<|K4 1 24 25 26 Y<|ZA<|R2 Qk Y<|Rm Y<|Za<|⟨_, h, ES []⟩
    ·
     refine ZE<|?_
     replace h := lx h ▸ ho1
     exact ⟨(), h, ES []⟩
   ·
    replace h := elr h
    replace h := t0i h
    refine Tr<|Ra Y<|Za<|J0 (fun j => (.inr j)) ⟨[(1, .rp [.int .i64 m.Version, .sl 44 (List.map R44 m.Params)] 0)], []⟩ h (fun h=>?_) fun h=>?_
    ·
     refine Tr<|Rq Y (Zc (ov Y) Zap)<|Rq Y (Zb (ov Y) Zeu Y)<|Rl tZ_44 Za1 Y<|Rm Y<|Za<|Zf<|?_
     obtain ⟨r2, hl2, ho2⟩ := QS h
     refine L2 (fun cells i2=>⟨[(1, .rp [.int .i64 m.Version, .sl 44 (List.map R44 m.Params)] 0), (7, .int .i64 cells), (46, .sl 44 (List.map R44 m.Params)), (47, .int .i64 (m.Params.length : Int)), (48, .int .i64 i2)], []⟩) hl2 (ES []) fun n2 cells i2 h=>?_
     unfold ZX at h
     refine Tr<|R2 ZK Y<|Za<|Zh<|If h Y (fun h=>?_) fun h=>?_
     ·
      refine Ze<|Zh<|Zf<|K5 1 7 46 47 48 Y<|Tr<|Rm Y<|bE h fun x2 h_x2 h=>Rq Y (ZF (ov Y) (ov Y) Za1 h_x2)<|Rq Y (Zg (ov Y) Xy Y Y)<|Rx Y (Zr (row := [_, _, _, _, _, _, _, _]) 0 Y ZgG Y tZ_44)<|Ra Y<|Rx Y (Zk (ov Y) (ov Y) (Zj Xy Y) Y Y Y (Nat.le_of_ble_eq_true Y) (Zd Y) Y)<|Za<|K7 1 7 8 9 46 47 48 Y<|Td md0<|D1 0 Zv Y<|Dq 1 Y (ZV (ov Y) Y Y Y Xy Y Y)<|bE h fun y4 h_y4 h=>Dq 2 Y (Zp (Zcs h_y4)<|.cons (ov Y) (.aggB Y) .nil)<|Dq 3 Y (Zd8 (X4 (ov Y) tZ_3) ZaN<|Zbm _ _)<|Dq 4 Y (Zm (ov Y) Y Y Zcj)<|Dq 5 Y (Zl (ov Y) Y Y Y tS3 Y)<|D2 6 ZhR Y<|D2 7 Qk Y<|D1 8 Jk Y<|Dd<|K6 1 7 8 46 47 48 Y<|Tr<|Rm Y<|R2 Jj Y<|Za<|K7 1 7 8 46 47 48 62 Y<|If h Y (fun h=>?_) fun h=>?_
      ·
       refine K1 8 Y<|Tr<|Rm Y<|Ra Y<|Ra Y<|Za<|?_
       replace h := lx h ▸ ho2
       obtain rfl := rt h
       exact Zi (Zs Y (.two (rb Y)<|rb Y))
      ·
       exact Ze<|K5 1 7 46 47 48 Y<|ZA<|R2 Qk Y<|Rm Y<|Za<|⟨_, h, ES []⟩
     ·
      refine ZE<|?_
      replace h := lx h ▸ ho2
      exact ⟨(), h, ES []⟩
    ·
     replace h := elr h
     replace h := t0i h
     refine Tr<|Rx Y (ZbQ 0 Y ZgK)<|Ra Y<|Za<|J0 (fun j => (.inr j)) ⟨[], []⟩ h (fun h=>?_) fun h=>?_
     ·
      refine K2 1 10 Y<|Tr<|Rq Y (Zc (ov Y) Zap)<|Rq Y (Zb (ov Y) Zeu Y)<|Rl tZ_44 Za1 Y<|Rm Y<|Za<|Zf<|?_
      obtain ⟨r3, hl3, ho3⟩ := QS h
      refine L2 (fun taken i3=>⟨[(10, .mref 0 1), (67, .sl 44 (List.map R44 m.Params)), (68, .int .i64 (m.Params.length : Int)), (69, .int .i64 i3)], [some ⟨60, [[.mcon (List.map (Qz Xu FV3) taken)]]⟩]⟩) hl3 (ES [some 0] (hhp := .cons Y (Qf (fk := Xu) (fv := FV3) (m := ([] : List (layout_bit × Int))) tZ_60 (fun _=>Xd<|rld Y) fun _=>.ren<|.dat Y) .nil)) fun n3 taken i3 h=>?_
      unfold ZY at h
      refine Tr<|R2 ZK Y<|Za<|Zh<|If h Y (fun h=>?_) fun h=>?_
      ·
       refine Ze<|J1 (fun j => (.inr j)) (fun taken2=>⟨[(10, .mref 0 1), (67, .sl 44 (List.map R44 m.Params)), (68, .int .i64 (m.Params.length : Int)), (69, .int .i64 i3)], [some ⟨60, [[.mcon (List.map (Qz Xu FV3) taken2)]]⟩]⟩) h (fun h=>?_) fun taken2 h=>?_
       ·
        refine Zf<|K4 10 67 68 69 Y<|Tr<|Rm Y<|bE h fun x3 h_x3 h=>Rq Y (ZF (ov Y) (ov Y) Za1 h_x3)<|Rq Y (Zg (ov Y) Xy Y Y)<|Rx Y (Zr (row := [_, _, _, _, _, _, _, _]) 1 Y ZgG Y tZ_44)<|Ra Y<|Rx Y (Zk (ov Y) (ov Y) (Zj Xy Y) Y Y Y (Nat.le_of_ble_eq_true Y) (Zd Y) Y)<|Za<|K6 10 11 12 67 68 69 Y<|Tr<|Rm Y<|Rq Y (ZV (ov Y) Y Y Y Xy Y Y)<|bE h fun y5 h_y5 h=>Rq Y (Zp (ZaX h_y5)<|.cons (ov Y) (.b Y)<|.cons (ov Y) (.aggB Y) .nil)<|Rl tZ_34 Zar Y<|Rm Y<|Za<|Zf<|?_
        obtain ⟨r4, hl4, ho4⟩ := QS h
        refine L2 (fun taken3 i4=>⟨[(10, .mref 0 1), (11, .int .i64 i3), (67, .sl 44 (List.map R44 m.Params)), (68, .int .i64 (m.Params.length : Int)), (69, .int .i64 i3), (76, .sl 34 (List.map R34 y5)), (77, .int .i64 (y5.length : Int)), (78, .int .i64 i4)], [some ⟨60, [[.mcon (List.map (Qz Xu FV3) taken3)]]⟩]⟩) hl4 (ES [some 0] (hhp := .cons Y (Qf (fk := Xu) (fv := FV3) (m := taken) tZ_60 (fun _=>Xd<|rld Y) fun _=>.ren<|.dat Y) .nil)) fun n4 taken3 i4 h=>?_
        unfold QN at h
        refine Tr<|R2 ZK Y<|Za<|Zh<|If h Y (fun h=>?_) fun h=>?_
        ·
         refine Ze<|Zh<|Zf<|K8 10 11 67 68 69 76 77 78 Y<|Tr<|bE h fun x4 h_x4 h=>Rq Y (ZF (ov Y) (ov Y) Zar h_x4)<|Rq Y (Zg (ov Y) ZbD Y Y)<|Rx Y (Zr (row := [_, _, _, _]) 1 Y Zfr Y tZ_34)<|Rx Y (Zk (ov Y) (ov Y) (Zj ZbD Y) Y Y Y (Nat.le_of_ble_eq_true Y) (Zd Y) Y)<|Za<|K9 10 11 14 67 68 69 76 77 78 Y<|Tr<|Rm Y<|Rm Y<|Rq Y (Zm (ov Y) Y Y Zbe)<|Rq Y (Zl (ov Y) Y Y Y Zfn Y)<|bE h fun y6 h_y6 h=>Rx Y (ZcY [0] (ZbT h_y6) (.cons (ov Y) (.mref _ Y)<|.cons (ov Y) (.dat Y)<|.cons (ov Y) (.dat Y) .nil) (.cons Y (Qf (fk := Xu) (fv := FV3) (m := taken3) tZ_60 (fun _=>Xd<|rld Y) fun _=>.ren<|.dat Y) .nil) Y (.lent 0 (.inl Y) Y (Qf (fk := Xu) (fv := FV3) (m := y6.2) tZ_60 (fun _=>Xd<|rld Y) fun _=>.ren<|.dat Y)<|.keep Y Y .nil) Y Y<|.dat Y)<|R1 XN Y<|Za<|K9 10 11 67 68 69 76 77 78 87 Y<|If h Y (fun h=>?_) fun h=>?_
         ·
          refine K1 11 Y<|Tr<|Rm Y<|Ra Y<|Ra Y<|Za<|?_
          replace h := lx h ▸ ho4
          replace h := lx h ▸ ho3
          obtain rfl := rt h
          exact Zi (Zs Y (.two (rb Y)<|rb Y))
         ·
          exact Ze<|K8 10 11 67 68 69 76 77 78 Y<|ZA<|R2 Qk Y<|Rm Y<|Za<|⟨_, h, ES [some 0] (hhp := .cons Y (Qf (fk := Xu) (fv := FV3) (m := y6.2) tZ_60 (fun _=>Xd<|rld Y) fun _=>.ren<|.dat Y) .nil)⟩
        ·
         refine ZE<|?_
         replace h := lx h ▸ ho4
         exact ⟨_, h, ES [some 0] (hhp := .cons Y (Qf (fk := Xu) (fv := FV3) (m := taken3) tZ_60 (fun _=>Xd<|rld Y) fun _=>.ren<|.dat Y) .nil)⟩
       ·
        replace h := elr h
        replace h := t1i h
        exact ZA<|R2 Qk Y<|Rm Y<|Za<|⟨_, h, ES [some 0] (hhp := .cons Y (Qf (fk := Xu) (fv := FV3) (m := taken2) tZ_60 (fun _=>Xd<|rld Y) fun _=>.ren<|.dat Y) .nil)⟩
      ·
       refine ZE<|?_
       replace h := lx h ▸ ho3
       exact ⟨(), h, ES []⟩
     ·
      replace h := elr h
      replace h := t0i h
      refine Tr<|Ra Y<|Ra Y<|Za<|?_
      obtain rfl := rt h
      exact Zi (Zs Y (.two (rb Y)<|rb Y))
theorem ZfO {m : api_Map} {r : Int × Int} (h : ZbJ m = some r) :
 CSpec Try.prog gl0 5 [.agg [.int .i64 m.Version, .sl 44 (List.map R44 m.Params)]] (.tuple [.int .i64 r.1, .int .i64 r.2]) := by
 unfold ZbJ at h
 replace h := Qh h
 refine So Try.func5 Y fun w0 A=>Tr<|Rq Y (Z9 (cva<|ov Y) Y tZ_24 Y)<|Ra Y<|Ra Y<|Za<|K1 1 Y<|Tr<|Rq Y (Zg (ov Y) Zb9 Y Y)<|bE h fun y h_y h=>Rq Y (Zp (Je h_y)<|.cons (ov Y) (.aggB Y) .nil)<|Rm Y<|Rq Y (Zy (ov Y) Y)<|Rq Y (Zy (ov Y) Y)<|Ra Y<|Ra Y<|Za<|K2 4 5 Y<|Tr<|Rm Y<|Rq Y (ZlU (ov Y) (ov Y) Y)<|Rm Y<|Ra Y<|Ra Y<|Za<|?_
 obtain rfl := rt h
 exact Zi (Zs Y (.two (rb Y)<|rb Y))
theorem QP {n : Int} {low : Int} {high : Int} {r : Bool} (h : Qx n low high = some r) :
 CSpec Try.prog gl0 19 [.int .i64 n, .int .i64 low, .int .i64 high] (.bool r) := by
 unfold Qx at h
 replace h := Qh h
 refine So Try.func19 Y fun w0 A=>Tr<|Ra Y<|Za<|Tr<|Rm Y<|Rm Y<|R2 ZK Y<|Rm Y<|Rq Y (.guarded ((decide (n < low)) == false) Y Y Y Y fun h => Zv<|ov Y)<|Rq Y (.guarded ((decide (n < low)) == false) Y Y Y Y fun h => Zv<|ov Y)<|Rq Y (.guarded ((decide (n < low)) == false) Y Y Y Y fun h => Jj (ow Y h)<|ow Y h)<|Rq Y (XQ (ov Y) fun hp=>ow Y<|gF hp)<|Ra Y<|Za<|?_
 obtain rfl := rt h
 exact Zi (Zs Y (.one<|rb Y))
end Go.Proofs.Ytjjlfkjacmhcmaa
