/- A text of the proof: a verified executor of the program form, or the contracts of the functions that the law reaches. -/
import Derived.Test.YtncoekfjpkfcdaaShW2
import Derived.Test.YtncoekfjpkfcdaaProg
import Derived.Test.YtncoekfjpkfcdaaLayL
import Derived.Test.YtncoekfjpkfcdaaVO
set_option linter.all false
namespace Go.Proofs.Ytncoekfjpkfcdaa
open Go Go.Vx
set_option maxRecDepth 10000
set_option maxHeartbeats 1000000
set_option linter.unusedVariables false
theorem tZ_109 : Try.prog.cellsOf 109 = 4 := by kernel_rfl
theorem tZ_9 : Try.prog.cellsOf 9 = 1 := by kernel_rfl
theorem tZ_43 : Try.prog.cellsOf 43 = 8 := by kernel_rfl
theorem tZ_24 : Try.prog.cellsOf 24 = 2 := by kernel_rfl
theorem tA24 : tAgg Try.prog 24 2 = true := by kernel_rfl
theorem tZ24 : zeroOf Try.prog 24 = some [.int .i64 0, .slice none 0 0] := by kernel_rfl
theorem tF24_0 : tFld Try.prog 24 0 0 = true := by kernel_rfl
theorem tS3 : tScal Try.prog 3 = true := by kernel_rfl
theorem tF24_1 : tFld Try.prog 24 1 1 = true := by kernel_rfl
theorem tS22 : tScal Try.prog 22 = true := by kernel_rfl
theorem tL22 : tSl Try.prog 22 43 8 104 = true := by kernel_rfl
theorem tA43 : tAgg Try.prog 43 8 = true := by kernel_rfl
theorem tZ43 : zeroOf Try.prog 43 = some [.string ⟨#[]⟩, .int .i64 0, .slice none 0 0, .int .i64 0, .int .i64 0, .int .i64 0, .int .i64 0, .slice none 0 0] := by kernel_rfl
theorem tF43_0 : tFld Try.prog 43 0 0 = true := by kernel_rfl
theorem tS9 : tScal Try.prog 9 = true := by kernel_rfl
theorem tStr9 : tStr Try.prog 9 = true := by kernel_rfl
theorem tF43_1 : tFld Try.prog 43 1 1 = true := by kernel_rfl
theorem tF43_2 : tFld Try.prog 43 2 2 = true := by kernel_rfl
theorem tS40 : tScal Try.prog 40 = true := by kernel_rfl
theorem tL40 : tSl Try.prog 40 109 4 32 = true := by kernel_rfl
theorem tA109 : tAgg Try.prog 109 4 = true := by kernel_rfl
theorem tZ109 : zeroOf Try.prog 109 = some [.int .i64 0, .int .i64 0, .int .i64 0, .int .i64 0] := by kernel_rfl
theorem tF109_0 : tFld Try.prog 109 0 0 = true := by kernel_rfl
theorem tF109_1 : tFld Try.prog 109 1 1 = true := by kernel_rfl
theorem tF109_2 : tFld Try.prog 109 2 2 = true := by kernel_rfl
theorem tF109_3 : tFld Try.prog 109 3 3 = true := by kernel_rfl
theorem tL25 : tSl Try.prog 25 3 1 8 = true := by kernel_rfl
theorem tZ_3 : Try.prog.cellsOf 3 = 1 := by kernel_rfl
theorem tF43_4 : tFld Try.prog 43 4 4 = true := by kernel_rfl
theorem tF43_3 : tFld Try.prog 43 3 3 = true := by kernel_rfl
theorem tF43_5 : tFld Try.prog 43 5 5 = true := by kernel_rfl
theorem tF43_6 : tFld Try.prog 43 6 6 = true := by kernel_rfl
theorem tB4 : (match Try.prog.underlying 4 with | some .bool => true | _ => false) = true := by kernel_rfl
theorem tF43_7 : tFld Try.prog 43 7 7 = true := by kernel_rfl
theorem tS41 : tScal Try.prog 41 = true := by kernel_rfl
theorem tL41 : tSl Try.prog 41 9 1 16 = true := by kernel_rfl
theorem tMp119 : tMap Try.prog 119 122 3 = true := by kernel_rfl
theorem tZ3 : zeroOf Try.prog 3 = some [.int .i64 0] := by kernel_rfl
theorem tL62 : tSl Try.prog 62 54 4 48 = true := by kernel_rfl
theorem tPL54 : structPl Try.prog 54 = some [(0, 1), (1, 1), (2, 1), (3, 1)] := by kernel_rfl
theorem tHA54 : hasAll Try.prog 54 = true := by kernel_rfl
theorem tZ54 : zeroOf Try.prog 54 = some [.int .i64 0, .int .i64 0, .int .i64 0, .slice none 0 0] := by kernel_rfl
theorem tZ_54 : Try.prog.cellsOf 54 = 4 := by kernel_rfl
theorem tA54 : tAgg Try.prog 54 4 = true := by kernel_rfl
theorem tF54_3 : tFld Try.prog 54 3 3 = true := by kernel_rfl
theorem tS52 : tScal Try.prog 52 = true := by kernel_rfl
theorem tZ66 : zeroOf Try.prog 66 = some [.int .i64 0, .int .i64 0, .int .i64 0, .int .i64 0] := by kernel_rfl
theorem tZ_66 : Try.prog.cellsOf 66 = 4 := by kernel_rfl
theorem tPL66 : structPl Try.prog 66 = some [(0, 1), (1, 1), (2, 1), (3, 1)] := by kernel_rfl
theorem tHA66 : hasAll Try.prog 66 = true := by kernel_rfl
theorem tA66 : tAgg Try.prog 66 4 = true := by kernel_rfl
theorem tL52 : tSl Try.prog 52 66 4 32 = true := by kernel_rfl
theorem tFS122 : flatSt Try.prog 122 [.i .i64, .i .i64, .i .i64] = true := by kernel_rfl
theorem tZV3 : zeroV Try.prog 3 = some (.int .i64 0) := by kernel_rfl
theorem tF66_3 : tFld Try.prog 66 3 3 = true := by kernel_rfl
theorem tF66_0 : tFld Try.prog 66 0 0 = true := by kernel_rfl
theorem tF66_1 : tFld Try.prog 66 1 1 = true := by kernel_rfl
theorem tF66_2 : tFld Try.prog 66 2 2 = true := by kernel_rfl
theorem tPL122 : structPl Try.prog 122 = some [(0, 1), (1, 1), (2, 1)] := by kernel_rfl
theorem tHA122 : hasAll Try.prog 122 = true := by kernel_rfl
theorem tZ122 : zeroOf Try.prog 122 = some [.int .i64 0, .int .i64 0, .int .i64 0] := by kernel_rfl
theorem tL156 : tSl Try.prog 156 122 3 24 = true := by kernel_rfl
theorem tZ_122 : Try.prog.cellsOf 122 = 3 := by kernel_rfl
theorem tA122 : tAgg Try.prog 122 3 = true := by kernel_rfl
theorem tZ_119 : Try.prog.cellsOf 119 = 1 := by kernel_rfl
theorem tPL24 : structPl Try.prog 24 = some [(0, 1), (1, 1)] := by kernel_rfl
theorem tHA24 : hasAll Try.prog 24 = true := by kernel_rfl
theorem tPn128 : tPtr Try.prog 128 = true := by kernel_rfl
theorem tIsl40 : (match Try.prog.underlying 40 with | some (.slice _) => true | _ => false) = true := by kernel_rfl
theorem tIsl41 : (match Try.prog.underlying 41 with | some (.slice _) => true | _ => false) = true := by kernel_rfl
theorem tMp117 : tMap Try.prog 117 167 4 = true := by kernel_rfl
theorem tIA167 : tIntA Try.prog 167 3 3 .i64 = true := by kernel_rfl
theorem tZV4 : zeroV Try.prog 4 = some (.bool false) := by kernel_rfl
theorem tR167 : tArr Try.prog 167 3 3 1 = true := by kernel_rfl
theorem tZ167 : zeroOf Try.prog 167 = some [.int .i64 0, .int .i64 0, .int .i64 0] := by kernel_rfl
theorem tZ_167 : Try.prog.cellsOf 167 = 3 := by kernel_rfl
theorem tA167 : tAgg Try.prog 167 3 = true := by kernel_rfl
theorem tZ_117 : Try.prog.cellsOf 117 = 1 := by kernel_rfl
theorem tPL43 : structPl Try.prog 43 = some [(0, 1), (1, 1), (2, 1), (3, 1), (4, 1), (5, 1), (6, 1), (7, 1)] := by kernel_rfl
theorem tHA43 : hasAll Try.prog 43 = true := by kernel_rfl
theorem tFS109 : flatSt Try.prog 109 [.i .i64, .i .i64, .i .i64, .i .i64] = true := by kernel_rfl
theorem tPL109 : structPl Try.prog 109 = some [(0, 1), (1, 1), (2, 1), (3, 1)] := by kernel_rfl
theorem tHA109 : hasAll Try.prog 109 = true := by kernel_rfl
theorem tZ26 : zeroOf Try.prog 26 = some [.slice none 0 0, .slice none 0 0, .slice none 0 0, .slice none 0 0, .slice none 0 0, .slice none 0 0, .slice none 0 0, .slice none 0 0, .slice none 0 0, .slice none 0 0, .slice none 0 0, .slice none 0 0, .slice none 0 0, .slice none 0 0, .slice none 0 0, .slice none 0 0] := by kernel_rfl
theorem tZ_26 : Try.prog.cellsOf 26 = 16 := by kernel_rfl
theorem tA26 : tAgg Try.prog 26 16 = true := by kernel_rfl
theorem tR26 : tArr Try.prog 26 16 25 1 = true := by kernel_rfl
theorem tS25 : tScal Try.prog 25 = true := by kernel_rfl
theorem tF54_0 : tFld Try.prog 54 0 0 = true := by kernel_rfl
theorem tZ102 : zeroOf Try.prog 102 = some [.int .i64 0, .int .i64 0, .nilFunc, .nilFunc] := by kernel_rfl
theorem tZ_102 : Try.prog.cellsOf 102 = 4 := by kernel_rfl
theorem tZ99 : zeroOf Try.prog 99 = some [.nilFunc] := by kernel_rfl
theorem tZ_99 : Try.prog.cellsOf 99 = 1 := by kernel_rfl
theorem tS99 : tScal Try.prog 99 = true := by kernel_rfl
theorem tZ147 : zeroOf Try.prog 147 = some [.nilFunc] := by kernel_rfl
theorem tZ_147 : Try.prog.cellsOf 147 = 1 := by kernel_rfl
theorem tS147 : tScal Try.prog 147 = true := by kernel_rfl
theorem tMp149 : tMap Try.prog 149 3 148 = true := by kernel_rfl
theorem tI3 : tInt Try.prog 3 .i64 = true := by kernel_rfl
theorem tZ_149 : Try.prog.cellsOf 149 = 1 := by kernel_rfl
theorem tZV148 : zeroV Try.prog 148 = some .nilFunc := by kernel_rfl
theorem tPL102 : structPl Try.prog 102 = some [(0, 1), (1, 1), (2, 1), (3, 1)] := by kernel_rfl
theorem tHA102 : hasAll Try.prog 102 = true := by kernel_rfl
theorem tA102 : tAgg Try.prog 102 4 = true := by kernel_rfl
theorem tF102_0 : tFld Try.prog 102 0 0 = true := by kernel_rfl
theorem tF102_1 : tFld Try.prog 102 1 1 = true := by kernel_rfl
theorem tF102_2 : tFld Try.prog 102 2 2 = true := by kernel_rfl
theorem tFs102_3 : tFldS Try.prog 102 3 3 = true := by kernel_rfl
theorem tF54_1 : tFld Try.prog 54 1 1 = true := by kernel_rfl
theorem tPL36 : structPl Try.prog 36 = some [(0, 1), (1, 1), (2, 1), (3, 1)] := by kernel_rfl
theorem tHA36 : hasAll Try.prog 36 = true := by kernel_rfl
theorem tZ36 : zeroOf Try.prog 36 = some [.int .i64 0, .int .i64 0, .int .i64 0, .bool false] := by kernel_rfl
theorem tL32 : tSl Try.prog 32 36 4 32 = true := by kernel_rfl
theorem tZ_36 : Try.prog.cellsOf 36 = 4 := by kernel_rfl
theorem tA36 : tAgg Try.prog 36 4 = true := by kernel_rfl
theorem tFS36 : flatSt Try.prog 36 [.i .i64, .i .i64, .i .i64, .b] = true := by kernel_rfl
def gl0 : Gl := ⟨0, []⟩
def R109 (x : api_Part) : List AV := [.int .i64 x.Frame, .int .i64 x.Word, .int .i64 x.Low, .int .i64 x.Bits]
def R9 (x : Str) : List AV := [.str x]
def R43 (x : api_Param) : List AV := [.str x.Name, .int .i64 x.Kind, .sl 109 (List.map R109 x.Parts), .int .i64 x.First, .int .i64 x.Every, .int .i64 x.Times, .int .i64 x.Step, .sl 9 (List.map R9 x.Names)]
def R3 (x : Int) : List AV := [.int .i64 x]
theorem D3 (x : Int) : (R3 x).length = Try.prog.cellsOf 3 ∧ (R3 x).all datB = true := ⟨tZ_3.symm, rfl⟩
def R66 (x : api_Place) : List AV := [.int .i64 x.Frame, .int .i64 x.Word, .int .i64 x.Low, .int .i64 x.Bits]
theorem D66 (x : api_Place) : (R66 x).length = Try.prog.cellsOf 66 ∧ (R66 x).all datB = true := ⟨tZ_66.symm, rfl⟩
def R54 (x : api_Cell) : List AV := [.int .i64 x.Param, .int .i64 x.Index, .int .i64 x.Frame, .sl 66 (List.map R66 x.Places)]
theorem D54 (x : api_Cell) : (R54 x).length = Try.prog.cellsOf 54 ∧ (R54 x).all datB = true := ⟨tZ_54.symm, rfl⟩
def FK122 (x : layout_bit) : AV := .agg [.int .i64 x.frame, .int .i64 x.word, .int .i64 x.bit]
theorem tKO122 : KeyOK Try.prog 122 FK122 kq_layout_bit := key_struct tFS122 (fun _ => rfl)
def FV3 (x : Int) : AV := .int .i64 x
def R122 (x : layout_bit) : List AV := [.int .i64 x.frame, .int .i64 x.word, .int .i64 x.bit]
theorem D122 (x : layout_bit) : (R122 x).length = Try.prog.cellsOf 122 ∧ (R122 x).all datB = true := ⟨tZ_122.symm, rfl⟩
theorem D109 (x : api_Part) : (R109 x).length = Try.prog.cellsOf 109 ∧ (R109 x).all datB = true := ⟨tZ_109.symm, rfl⟩
theorem D9 (x : Str) : (R9 x).length = Try.prog.cellsOf 9 ∧ (R9 x).all datB = true := ⟨tZ_9.symm, rfl⟩
theorem D43 (x : api_Param) : (R43 x).length = Try.prog.cellsOf 43 ∧ (R43 x).all datB = true := ⟨tZ_43.symm, rfl⟩
def C3 (x : Int) : AV := .int .i64 x
def FK167 (x : Vector Int 3) : AV := .agg (List.map C3 x.toList)
theorem tKO167 : KeyOK Try.prog 167 FK167 kqV := key_arr (fun _ => rfl) tIA167
def FV4 (x : Bool) : AV := .bool x
def C25 (x : List Int) : AV := .sl 3 (List.map R3 x)
def FK3 (x : Int) : AV := .int .i64 x
theorem tKO3 : KeyOK Try.prog 3 FK3 kqI := key_int (fun _ => rfl) tI3
def FOK99 (x : Fv (Int → Option Int)) : Prop := x.c.all datB = true ∧ ∀ z0 r, x.fn z0 = some r → CSpec Try.prog gl0 x.f ([.int .i64 z0] ++ x.c) (.int .i64 r)
def FOK100 (x : Fv (Int → Option (Int × Bool))) : Prop := x.c.all datB = true ∧ ∀ z0 r, x.fn z0 = some r → CSpec Try.prog gl0 x.f ([.int .i64 z0] ++ x.c) (.tuple [.int .i64 r.1, .bool r.2])
def R36 (x : api_Reading) : List AV := [.int .i64 x.Param, .int .i64 x.Index, .int .i64 x.Value, .bool x.Good]
theorem D36 (x : api_Reading) : (R36 x).length = Try.prog.cellsOf 36 ∧ (R36 x).all datB = true := ⟨tZ_36.symm, rfl⟩

theorem ok_layout_within {n : Int} {low : Int} {high : Int} {r : Bool} (h : layout_within n low high = some r) :
  CSpec Try.prog gl0 60 [.int .i64 n, .int .i64 low, .int .i64 high] (.bool r) := by
 unfold layout_within at h
 replace h := bnd0 h
 refine spec_of (by kernel_rfl) Try.func60 rfl rfl ?_
 intro w0 A
 refine T_seq (T_reg ?_)
 refine R_q _ rfl (v_assign (ov rfl)) ?_
 refine R_nil ?_
 refine T_seq (T_reg ?_)
 refine R_q _ rfl (v_move (ov rfl)) ?_
 refine R_q _ rfl (v_move (ov rfl)) ?_
 refine R_q _ rfl (v_geq (ov rfl) (ov rfl)) ?_
 refine R_q _ rfl (v_move (ov rfl)) ?_
 refine R_q _ rfl (.guarded ((decide (low ≤ n)) == true) rfl rfl rfl rfl fun h => v_move (ov rfl)) ?_
 refine R_q _ rfl (.guarded ((decide (low ≤ n)) == true) rfl rfl rfl rfl fun h => v_move (ov rfl)) ?_
 refine R_q _ rfl (.guarded ((decide (low ≤ n)) == true) rfl rfl rfl rfl fun h => v_leq (ow rfl h) (ow rfl h)) ?_
 refine R_q _ rfl (v_and (ov rfl) (fun hp => ow rfl (gT hp))) ?_
 refine R_q _ rfl (v_assign (ov rfl)) ?_
 refine R_nil ?_
 obtain rfl := rt (v := ((decide (low ≤ n)) && (decide (n ≤ high)))) h
 refine T_ret (retq ?_ (.one (.tmp rfl (Dat.view (.b rfl)))))
 rfl

theorem ok_contf {s : Str} {f : Int → Option Bool} {r : Bool} {f_f : FuncId} {f_c : List AV} (f_d : f_c.all datB = true) (f_h : ∀ (z0 : Int) z, f z0 = some z → CSpec Try.prog gl0 f_f ([.int .i32 z0] ++ f_c) (.bool z)) (h : containsFunc s f = some r) :
  CSpec Try.prog gl0 122 [.str s, .fn f_f f_c] (.bool r) :=
 ok_containsFunc (by kernel_rfl) (fun g lb eg p s w hp => Any.strings_ContainsFunc_grows Try.laysGw17 g lb eg p s w hp) f_d f_h h

theorem ok_layout_isName_1 {c_ : Int} {r : Bool} (h : layout_isName_1 c_ = some r) :
  CSpec Try.prog gl0 123 [.int .i32 c_] (.bool r) := by
 unfold layout_isName_1 at h
 replace h := bnd0 h
 refine spec_of (by kernel_rfl) Try.func123 rfl rfl ?_
 intro w0 A
 refine T_seq (T_reg ?_)
 refine R_q _ rfl (v_assign (ov rfl)) ?_
 refine R_nil ?_
 refine T_seq (T_reg ?_)
 refine R_q _ rfl (v_move (ov rfl)) ?_
 refine R_q _ rfl (v_geq (ov rfl) (ov rfl)) ?_
 refine R_q _ rfl (v_move (ov rfl)) ?_
 refine R_q _ rfl (.guarded ((decide (97 ≤ c_)) == true) rfl rfl rfl rfl fun h => v_move (ov rfl)) ?_
 refine R_q _ rfl (.guarded ((decide (97 ≤ c_)) == true) rfl rfl rfl rfl fun h => v_leq (ow rfl h) (ov rfl)) ?_
 refine R_q _ rfl (v_and (ov rfl) (fun hp => ow rfl (gT hp))) ?_
 refine R_q _ rfl (v_move (ov rfl)) ?_
 refine R_q _ rfl (.guarded (((decide (97 ≤ c_)) && (decide (c_ ≤ 122))) == false) rfl rfl rfl rfl fun h => v_move (ov rfl)) ?_
 refine R_q _ rfl (.guarded (((decide (97 ≤ c_)) && (decide (c_ ≤ 122))) == false) rfl rfl rfl rfl fun h => v_geq (ow rfl h) (ov rfl)) ?_
 refine R_q _ rfl (.guarded (((decide (97 ≤ c_)) && (decide (c_ ≤ 122))) == false) rfl rfl rfl rfl fun h => v_move (ow rfl h)) ?_
 refine R_q _ rfl (.guarded2 ((((decide (97 ≤ c_)) && (decide (c_ ≤ 122))) == false) && ((decide (48 ≤ c_)) == true)) rfl rfl rfl rfl fun h => v_move (ov rfl)) ?_
 refine R_q _ rfl (.guarded2 ((((decide (97 ≤ c_)) && (decide (c_ ≤ 122))) == false) && ((decide (48 ≤ c_)) == true)) rfl rfl rfl rfl fun h => v_leq (ow rfl h) (ov rfl)) ?_
 refine R_q _ rfl (.guarded (((decide (97 ≤ c_)) && (decide (c_ ≤ 122))) == false) rfl rfl rfl rfl fun h => v_and (ow rfl h) (fun hp => ow rfl (gA h (gT hp)))) ?_
 refine R_q _ rfl (v_or (ov rfl) (fun hp => ow rfl (gF hp))) ?_
 refine R_q _ rfl (v_move (ov rfl)) ?_
 refine R_q _ rfl (.guarded ((((decide (97 ≤ c_)) && (decide (c_ ≤ 122))) || ((decide (48 ≤ c_)) && (decide (c_ ≤ 57)))) == false) rfl rfl rfl rfl fun h => v_move (ov rfl)) ?_
 refine R_q _ rfl (.guarded ((((decide (97 ≤ c_)) && (decide (c_ ≤ 122))) || ((decide (48 ≤ c_)) && (decide (c_ ≤ 57)))) == false) rfl rfl rfl rfl fun h => v_eql (ow rfl h) (ov rfl)) ?_
 refine R_q _ rfl (v_or (ov rfl) (fun hp => ow rfl (gF hp))) ?_
 refine R_q _ rfl (v_not (ov rfl)) ?_
 refine R_q _ rfl (v_assign (ov rfl)) ?_
 refine R_nil ?_
 obtain rfl := rt (v := (!((((decide (97 ≤ c_)) && (decide (c_ ≤ 122))) || ((decide (48 ≤ c_)) && (decide (c_ ≤ 57)))) || (decide (c_ = 45))))) h
 refine T_ret (retq ?_ (.one (.tmp rfl (Dat.view (.b rfl)))))
 rfl

theorem ok_layout_isName {s : Str} {r : Bool} (h : layout_isName s = some r) :
  CSpec Try.prog gl0 80 [.str s] (.bool r) := by
 unfold layout_isName at h
 replace h := bnd0 h
 refine spec_of (by kernel_rfl) Try.func80 rfl rfl ?_
 intro w0 A
 refine T_seq (T_reg ?_)
 refine R_q _ rfl (v_assign (ov rfl)) ?_
 refine R_nil ?_
 refine T_seq ?_
 refine T_keep (kc 0 rfl <| kn) rfl ?_
 refine T_seq (T_reg ?_)
 refine R_q _ rfl (v_move (ov rfl)) ?_
 refine R_q _ rfl (v_lenStr (ov rfl) tStr9 rfl) ?_
 refine R_q _ rfl (v_lss (ov rfl) (ov rfl)) ?_
 refine R_q _ rfl (v_move (ov rfl)) ?_
 refine R_q _ rfl (.guarded ((decide ((s.length : Int) < 1)) == false) rfl rfl rfl rfl fun h => v_move (ov rfl)) ?_
 refine R_q _ rfl (.guarded ((decide ((s.length : Int) < 1)) == false) rfl rfl rfl rfl fun h => v_lenStr (ow rfl h) tStr9 rfl) ?_
 refine R_q _ rfl (.guarded ((decide ((s.length : Int) < 1)) == false) rfl rfl rfl rfl fun h => v_gtr (ow rfl h) (ov rfl)) ?_
 refine R_q _ rfl (v_or (ov rfl) (fun hp => ow rfl (gF hp))) ?_
 refine R_q _ rfl (v_move (ov rfl)) ?_
 refine R_q _ rfl (.guarded (((decide ((s.length : Int) < 1)) || (decide (30 < (s.length : Int)))) == false) rfl rfl rfl rfl fun h => v_move (ov rfl)) ?_
 obtain ⟨b, h_b, h⟩ := bnd h
 refine R_q _ rfl (.guarded (((decide ((s.length : Int) < 1)) || (decide (30 < (s.length : Int)))) == false) rfl rfl rfl rfl fun h => v_idxStr (ow rfl h) (ov rfl) tStr9 (gdT h_b h)) ?_
 refine R_q _ rfl (.guarded (((decide ((s.length : Int) < 1)) || (decide (30 < (s.length : Int)))) == false) rfl rfl rfl rfl fun h => v_lss (ow rfl h) (ov rfl)) ?_
 refine R_q _ rfl (v_or (ov rfl) (fun hp => ow rfl (gF hp))) ?_
 refine R_q _ rfl (v_move (ov rfl)) ?_
 refine R_q _ rfl (.guarded ((((decide ((s.length : Int) < 1)) || (decide (30 < (s.length : Int)))) || (decide (b < 97))) == false) rfl rfl rfl rfl fun h => v_move (ov rfl)) ?_
 obtain ⟨b2, h_b2, h⟩ := bnd h
 refine R_q _ rfl (.guarded ((((decide ((s.length : Int) < 1)) || (decide (30 < (s.length : Int)))) || (decide (b < 97))) == false) rfl rfl rfl rfl fun h => v_idxStr (ow rfl h) (ov rfl) tStr9 (gdT h_b2 h)) ?_
 refine R_q _ rfl (.guarded ((((decide ((s.length : Int) < 1)) || (decide (30 < (s.length : Int)))) || (decide (b < 97))) == false) rfl rfl rfl rfl fun h => v_gtr (ow rfl h) (ov rfl)) ?_
 refine R_q _ rfl (v_or (ov rfl) (fun hp => ow rfl (gF hp))) ?_
 refine R_nil ?_
 refine T_keep (kc 0 rfl <| kc 20 rfl <| kn) rfl ?_
 refine T_if h rfl (fun b20 h => ?_) (fun b20 h => ?_)
 ·
  refine T_keep (kn) rfl ?_
  refine T_seq (T_reg ?_)
  refine R_q _ rfl (v_assign (ov rfl)) ?_
  refine R_nil ?_
  obtain rfl := rt (v := false) h
  refine T_ret (retq ?_ (.one (.tmp rfl (Dat.view (.b rfl)))))
  rfl
 ·
  refine T_skip ?_
  refine T_keep (kc 0 rfl <| kn) rfl ?_
  refine T_seq (T_reg ?_)
  refine R_q _ rfl (v_move (ov rfl)) ?_
  obtain ⟨y, h_y, h⟩ := bnd h
  refine R_q _ rfl (v_call (ok_contf rfl (fun z0 _ hz => ok_layout_isName_1 hz) h_y) (.cons (ov rfl) (.b rfl) <| .cons (ov rfl) (.fn) <| .nil)) ?_
  refine R_q _ rfl (v_not (ov rfl)) ?_
  refine R_q _ rfl (v_assign (ov rfl)) ?_
  refine R_nil ?_
  obtain rfl := rt (v := (!y)) h
  refine T_ret (retq ?_ (.one (.tmp rfl (Dat.view (.b rfl)))))
  rfl

theorem ok_layout_bitsOf {p : api_Param} {r : Int} (h : layout_bitsOf p = some r) :
  CSpec Try.prog gl0 61 [.agg [.str p.Name, .int .i64 p.Kind, .sl 109 (List.map R109 p.Parts), .int .i64 p.First, .int .i64 p.Every, .int .i64 p.Times, .int .i64 p.Step, .sl 9 (List.map R9 p.Names)]] (.int .i64 r) := by
 unfold layout_bitsOf at h
 replace h := bnd0 h
 refine spec_of (by kernel_rfl) Try.func61 rfl rfl ?_
 intro w0 A
 refine T_seq (T_reg ?_)
 refine R_q _ rfl (v_boxD (cva (ov rfl)) rfl tZ_43 rfl) ?_
 refine R_q _ rfl (v_assign (ov rfl)) ?_
 refine R_nil ?_
 refine T_keep (kc 1 rfl <| kn) rfl ?_
 refine T_seq (T_reg ?_)
 refine R_q _ rfl (v_assign (ov rfl)) ?_
 refine R_nil ?_
 refine T_joinG id (t1 fun n => ⟨[(3, .int .i64 n)], []⟩) h (fun h => ?_) (fun j h => ?_)
 ·
  refine T_seq (T_reg ?_)
  refine R_q _ rfl (v_fieldR (ov rfl) tF43_2) ?_
  refine R_q _ rfl (v_loadS_r (ov rfl) tS40 rfl) ?_
  refine R_q _ rfl (v_len (slv_sl (ov rfl) tZ_109) tL40 (len_map _ _)) ?_
  refine R_q _ rfl (v_move (ov rfl)) ?_
  refine R_nil ?_
  refine T_block ?_
  obtain ⟨r1, hl1, ho1⟩ := bndL h
  refine T_loopG _ (t2 fun n2 i => ⟨[(3, .int .i64 n2), (7, .sl 109 (List.map R109 p.Parts)), (8, .int .i64 (p.Parts.length : Int)), (9, .int .i64 i)], []⟩) _ hl1 (Ent.sel [] (sd 3 rfl rfl <| sd 7 rfl rfl <| sd 8 rfl rfl <| sd 9 rfl rfl <| sn) (.nil) rfl rfl) (fun n1 s1 h => ?_)
  obtain ⟨n2, i⟩ := s1
  replace h := t2i h
  refine t2T ?_
  unfold layout_bitsOf_L1 at h
  refine T_seq (T_reg ?_)
  refine R_q _ rfl (v_lss (ov rfl) (ov rfl)) ?_
  refine R_nil ?_
  refine T_seq ?_
  refine T_if h rfl (fun b10 h => ?_) (fun b10 h => ?_)
  ·
   refine T_skip ?_
   refine T_seq ?_
   refine T_block ?_
   refine T_keep (kc 3 rfl <| kc 7 rfl <| kc 8 rfl <| kc 9 rfl <| kn) rfl ?_
   refine T_seq (T_reg ?_)
   obtain ⟨x, h_x, h⟩ := bnd h
   refine R_q _ rfl (v_ixSG (ov rfl) (ov rfl) tL40 h_x) ?_
   refine R_q _ rfl (v_loadA_r (ov rfl) tA109 rfl rfl) ?_
   refine R_w _ _ rfl (w_alloc (row := [_, _, _, _]) 0 rfl tZ109 rfl tZ_109) ?_
   refine R_w _ _ rfl (w_store (ov rfl) (ov rfl) (cells_agg tA109 rfl) rfl rfl rfl (Nat.le_of_ble_eq_true rfl) (cell1_all rfl) rfl) ?_
   refine R_nil ?_
   refine T_keep (kc 3 rfl <| kc 5 rfl <| kc 7 rfl <| kc 8 rfl <| kc 9 rfl <| kn) rfl ?_
   refine T_reg ?_
   refine R_q _ rfl (v_move (ov rfl)) ?_
   refine R_q _ rfl (v_fieldP (ov rfl) rfl rfl tF109_3) ?_
   refine R_q _ rfl (v_loadS (ov rfl) rfl rfl rfl tS3 rfl) ?_
   refine R_q _ rfl (v_add (ov rfl) (ov rfl) rfl) ?_
   refine R_q _ rfl (v_assign (ov rfl)) ?_
   refine R_nil ?_
   refine T_keep (kc 3 rfl <| kc 7 rfl <| kc 8 rfl <| kc 9 rfl <| kn) rfl ?_
   refine T_reg ?_
   refine R_q _ rfl (v_add (ov rfl) (ov rfl) rfl) ?_
   refine R_q _ rfl (v_move (ov rfl)) ?_
   refine R_nil ?_
   exact ⟨((i64 (n2 + x.Bits)), (i64 (i + 1))), h, Ent.sel [] (sd 3 rfl rfl <| sd 7 rfl rfl <| sd 8 rfl rfl <| sd 9 rfl rfl <| sn) (.nil) rfl rfl⟩
  ·
   refine T_exit ?_
   rw [lx h] at ho1
   replace h := ho1
   exact ⟨n2, h, Ent.sel [] (sd 3 rfl rfl <| sn) (.nil) rfl rfl⟩
 ·
  obtain ⟨n, rfl⟩ : ∃ x, x = j := ⟨_, rfl⟩
  replace h := t1i h
  refine t1T ?_
  refine T_seq (T_reg ?_)
  refine R_q _ rfl (v_move (ov rfl)) ?_
  refine R_q _ rfl (v_assign (ov rfl)) ?_
  refine R_nil ?_
  obtain rfl := rt (v := n) h
  refine T_ret (retq ?_ (.one (.tmp rfl (Dat.view (.b rfl)))))
  rfl

theorem ok_slices_Index_int_int {s : List Int} {v : Int} {r : Int} (h : slices_Index_int_int s v = some r) :
  CSpec Try.prog gl0 139 [.sl 3 (List.map R3 s), .int .i64 v] (.int .i64 r) := by
 unfold slices_Index_int_int at h
 replace h := bnd0 h
 refine spec_of (by kernel_rfl) Try.func139 rfl rfl ?_
 intro w0 A
 refine T_seq (T_reg ?_)
 refine R_q _ rfl (v_assign (ov rfl)) ?_
 refine R_nil ?_
 refine T_joinG (fun j => (.inr j)) (t0 ⟨[], []⟩) h (fun h => ?_) (fun j h => ?_)
 ·
  refine T_keep (kc 0 rfl <| kc 1 rfl <| kn) rfl ?_
  refine T_seq (T_reg ?_)
  refine R_q _ rfl (v_move (ov rfl)) ?_
  refine R_q _ rfl (v_len (slv_sl (ov rfl) tZ_3) tL25 (len_map _ _)) ?_
  refine R_q _ rfl (v_move (ov rfl)) ?_
  refine R_nil ?_
  refine T_block ?_
  obtain ⟨r1, hl1, ho1⟩ := bndL h
  refine T_loopG _ (t1 fun i => ⟨[(0, .sl 3 (List.map R3 s)), (1, .int .i64 v), (7, .int .i64 (s.length : Int)), (8, .int .i64 i)], []⟩) _ hl1 (Ent.sel [] (sd 0 rfl rfl <| sd 1 rfl rfl <| sd 7 rfl rfl <| sd 8 rfl rfl <| sn) (.nil) rfl rfl) (fun n1 s1 h => ?_)
  obtain ⟨i, rfl⟩ : ∃ x, x = s1 := ⟨_, rfl⟩
  replace h := t1i h
  refine t1T ?_
  unfold slices_Index_int_int_L1 at h
  refine T_seq (T_reg ?_)
  refine R_q _ rfl (v_lss (ov rfl) (ov rfl)) ?_
  refine R_nil ?_
  refine T_seq ?_
  refine T_if h rfl (fun b9 h => ?_) (fun b9 h => ?_)
  ·
   refine T_skip ?_
   refine T_seq ?_
   refine T_block ?_
   refine T_keep (kc 0 rfl <| kc 1 rfl <| kc 7 rfl <| kc 8 rfl <| kn) rfl ?_
   refine T_seq (T_reg ?_)
   refine R_q _ rfl (v_move (ov rfl)) ?_
   refine R_q _ rfl (v_assign (ov rfl)) ?_
   refine R_nil ?_
   refine T_keep (kc 0 rfl <| kc 1 rfl <| kc 5 rfl <| kc 7 rfl <| kc 8 rfl <| kn) rfl ?_
   refine T_seq (T_reg ?_)
   refine R_q _ rfl (v_move (ov rfl)) ?_
   refine R_q _ rfl (v_move (ov rfl)) ?_
   refine R_q _ rfl (v_move (ov rfl)) ?_
   obtain ⟨x, h_x, h⟩ := bnd h
   refine R_q _ rfl (v_ixSG (ov rfl) (ov rfl) tL25 h_x) ?_
   refine R_q _ rfl (v_loadS_r (ov rfl) tS3 rfl) ?_
   refine R_q _ rfl (v_eql (ov rfl) (ov rfl)) ?_
   refine R_nil ?_
   refine T_keep (kc 0 rfl <| kc 1 rfl <| kc 5 rfl <| kc 7 rfl <| kc 8 rfl <| kc 16 rfl <| kn) rfl ?_
   refine T_if h rfl (fun b16 h => ?_) (fun b16 h => ?_)
   ·
    refine T_keep (kc 5 rfl <| kn) rfl ?_
    refine T_seq (T_reg ?_)
    refine R_q _ rfl (v_move (ov rfl)) ?_
    refine R_q _ rfl (v_assign (ov rfl)) ?_
    refine R_nil ?_
    rw [lx h] at ho1
    replace h := ho1
    obtain rfl := rt (v := i) h
    refine T_ret (retq ?_ (.one (.tmp rfl (Dat.view (.b rfl)))))
    rfl
   ·
    refine T_skip ?_
    refine T_keep (kc 0 rfl <| kc 1 rfl <| kc 7 rfl <| kc 8 rfl <| kn) rfl ?_
    refine T_reg ?_
    refine R_q _ rfl (v_add (ov rfl) (ov rfl) rfl) ?_
    refine R_q _ rfl (v_move (ov rfl)) ?_
    refine R_nil ?_
    exact ⟨(i64 (i + 1)), h, Ent.sel [] (sd 0 rfl rfl <| sd 1 rfl rfl <| sd 7 rfl rfl <| sd 8 rfl rfl <| sn) (.nil) rfl rfl⟩
  ·
   refine T_exit ?_
   rw [lx h] at ho1
   replace h := ho1
   exact ⟨(), h, Ent.sel [] (sn) (.nil) rfl rfl⟩
 ·
  replace h := elr h
  cases j
  replace h := t0i h
  refine t0T ?_
  refine T_seq (T_reg ?_)
  refine R_q _ rfl (v_assign (ov rfl)) ?_
  refine R_nil ?_
  obtain rfl := rt (v := (-1)) h
  refine T_ret (retq ?_ (.one (.tmp rfl (Dat.view (.b rfl)))))
  rfl

theorem ok_slices_Contains_int_int {s : List Int} {v : Int} {r : Bool} (h : slices_Contains_int_int s v = some r) :
  CSpec Try.prog gl0 124 [.sl 3 (List.map R3 s), .int .i64 v] (.bool r) := by
 unfold slices_Contains_int_int at h
 replace h := bnd0 h
 refine spec_of (by kernel_rfl) Try.func124 rfl rfl ?_
 intro w0 A
 refine T_seq (T_reg ?_)
 refine R_q _ rfl (v_assign (ov rfl)) ?_
 refine R_nil ?_
 refine T_seq (T_reg ?_)
 refine R_q _ rfl (v_move (ov rfl)) ?_
 refine R_q _ rfl (v_move (ov rfl)) ?_
 obtain ⟨y, h_y, h⟩ := bnd h
 refine R_q _ rfl (v_call (ok_slices_Index_int_int h_y) (.cons (ov rfl) (.b rfl) <| .cons (ov rfl) (.b rfl) <| .nil)) ?_
 refine R_q _ rfl (v_geq (ov rfl) (ov rfl)) ?_
 refine R_q _ rfl (v_assign (ov rfl)) ?_
 refine R_nil ?_
 obtain rfl := rt (v := (decide (0 ≤ y))) h
 refine T_ret (retq ?_ (.one (.tmp rfl (Dat.view (.b rfl)))))
 rfl

theorem ok_layout_checkParts {p : api_Param} {r : Int} (h : layout_checkParts p = some r) :
  CSpec Try.prog gl0 81 [.agg [.str p.Name, .int .i64 p.Kind, .sl 109 (List.map R109 p.Parts), .int .i64 p.First, .int .i64 p.Every, .int .i64 p.Times, .int .i64 p.Step, .sl 9 (List.map R9 p.Names)]] (.int .i64 r) := by
 unfold layout_checkParts at h
 replace h := bnd0 h
 refine spec_of (by kernel_rfl) Try.func81 rfl rfl ?_
 intro w0 A
 refine T_seq (T_reg ?_)
 refine R_q _ rfl (v_boxD (cva (ov rfl)) rfl tZ_43 rfl) ?_
 refine R_q _ rfl (v_assign (ov rfl)) ?_
 refine R_nil ?_
 refine T_seq ?_
 refine T_block ?_
 refine T_keep (kc 1 rfl <| kn) rfl ?_
 refine T_seq (T_reg ?_)
 refine R_q _ rfl (v_fieldR (ov rfl) tF43_2) ?_
 refine R_q _ rfl (v_loadS_r (ov rfl) tS40 rfl) ?_
 refine R_q _ rfl (v_len (slv_sl (ov rfl) tZ_109) tL40 (len_map _ _)) ?_
 refine R_q _ rfl (v_eql (ov rfl) (ov rfl)) ?_
 refine R_q _ rfl (v_assign (ov rfl)) ?_
 refine R_nil ?_
 refine T_keep (kc 1 rfl <| kc 8 rfl <| kn) rfl ?_
 refine T_if h rfl (fun b8 h => ?_) (fun b8 h => ?_)
 ·
  refine T_keep (kn) rfl ?_
  refine T_seq (T_reg ?_)
  refine R_q _ rfl (v_assign (ov rfl)) ?_
  refine R_nil ?_
  obtain rfl := rt (v := 13) h
  refine T_ret (retq ?_ (.one (.tmp rfl (Dat.view (.b rfl)))))
  rfl
 ·
  refine T_keep (kc 1 rfl <| kn) rfl ?_
  refine T_seq (T_reg ?_)
  refine R_q _ rfl (v_fieldR (ov rfl) tF43_2) ?_
  refine R_q _ rfl (v_loadS_r (ov rfl) tS40 rfl) ?_
  refine R_q _ rfl (v_len (slv_sl (ov rfl) tZ_109) tL40 (len_map _ _)) ?_
  refine R_q _ rfl (v_gtr (ov rfl) (ov rfl)) ?_
  refine R_q _ rfl (v_assign (ov rfl)) ?_
  refine R_nil ?_
  refine T_keep (kc 1 rfl <| kc 13 rfl <| kn) rfl ?_
  refine T_if h rfl (fun b13 h => ?_) (fun b13 h => ?_)
  ·
   refine T_keep (kn) rfl ?_
   refine T_seq (T_reg ?_)
   refine R_q _ rfl (v_assign (ov rfl)) ?_
   refine R_nil ?_
   obtain rfl := rt (v := 3) h
   refine T_ret (retq ?_ (.one (.tmp rfl (Dat.view (.b rfl)))))
   rfl
  ·
   refine T_skip ?_
   refine T_joinG (fun j => (.inr j)) (t0 ⟨[(1, .rp [.str p.Name, .int .i64 p.Kind, .sl 109 (List.map R109 p.Parts), .int .i64 p.First, .int .i64 p.Every, .int .i64 p.Times, .int .i64 p.Step, .sl 9 (List.map R9 p.Names)] 0)], []⟩) h (fun h => ?_) (fun j h => ?_)
   ·
    refine T_keep (kc 1 rfl <| kn) rfl ?_
    refine T_seq (T_reg ?_)
    refine R_q _ rfl (v_fieldR (ov rfl) tF43_2) ?_
    refine R_q _ rfl (v_loadS_r (ov rfl) tS40 rfl) ?_
    refine R_q _ rfl (v_len (slv_sl (ov rfl) tZ_109) tL40 (len_map _ _)) ?_
    refine R_q _ rfl (v_move (ov rfl)) ?_
    refine R_nil ?_
    refine T_block ?_
    obtain ⟨r1, hl1, ho1⟩ := bndL h
    refine T_loopG _ (t1 fun i => ⟨[(1, .rp [.str p.Name, .int .i64 p.Kind, .sl 109 (List.map R109 p.Parts), .int .i64 p.First, .int .i64 p.Every, .int .i64 p.Times, .int .i64 p.Step, .sl 9 (List.map R9 p.Names)] 0), (19, .sl 109 (List.map R109 p.Parts)), (20, .int .i64 (p.Parts.length : Int)), (21, .int .i64 i)], []⟩) _ hl1 (Ent.sel [] (sd 1 rfl rfl <| sd 19 rfl rfl <| sd 20 rfl rfl <| sd 21 rfl rfl <| sn) (.nil) rfl rfl) (fun n1 s1 h => ?_)
    obtain ⟨i, rfl⟩ : ∃ x, x = s1 := ⟨_, rfl⟩
    replace h := t1i h
    refine t1T ?_
    unfold layout_checkParts_L1 at h
    refine T_seq (T_reg ?_)
    refine R_q _ rfl (v_lss (ov rfl) (ov rfl)) ?_
    refine R_nil ?_
    refine T_seq ?_
    refine T_if h rfl (fun b22 h => ?_) (fun b22 h => ?_)
    ·
     refine T_skip ?_
     refine T_seq ?_
     refine T_block ?_
     refine T_keep (kc 1 rfl <| kc 19 rfl <| kc 20 rfl <| kc 21 rfl <| kn) rfl ?_
     refine T_seq (T_reg ?_)
     obtain ⟨x, h_x, h⟩ := bnd h
     refine R_q _ rfl (v_ixSG (ov rfl) (ov rfl) tL40 h_x) ?_
     refine R_q _ rfl (v_loadA_r (ov rfl) tA109 rfl rfl) ?_
     refine R_w _ _ rfl (w_alloc (row := [_, _, _, _]) 0 rfl tZ109 rfl tZ_109) ?_
     refine R_w _ _ rfl (w_store (ov rfl) (ov rfl) (cells_agg tA109 rfl) rfl rfl rfl (Nat.le_of_ble_eq_true rfl) (cell1_all rfl) rfl) ?_
     refine R_nil ?_
     refine T_keep (kc 1 rfl <| kc 4 rfl <| kc 19 rfl <| kc 20 rfl <| kc 21 rfl <| kn) rfl ?_
     refine T_seq (T_reg ?_)
     refine R_q _ rfl (v_fieldP (ov rfl) rfl rfl tF109_0) ?_
     refine R_q _ rfl (v_loadS (ov rfl) rfl rfl rfl tS3 rfl) ?_
     obtain ⟨y, h_y, h⟩ := bnd h
     refine R_q _ rfl (v_call (ok_layout_within h_y) (.cons (ov rfl) (.b rfl) <| .cons (ov rfl) (.b rfl) <| .cons (ov rfl) (.b rfl) <| .nil)) ?_
     refine R_q _ rfl (v_not (ov rfl)) ?_
     refine R_q _ rfl (v_move (ov rfl)) ?_
     refine R_q _ rfl (.guarded ((!y) == false) rfl rfl rfl rfl fun h => v_fieldP (ov rfl) rfl rfl tF109_1) ?_
     refine R_q _ rfl (.guarded ((!y) == false) rfl rfl rfl rfl fun h => v_loadS (ow rfl h) rfl rfl rfl tS3 rfl) ?_
     obtain ⟨y2, h_y2, h⟩ := bnd h
     refine R_q _ rfl (.guarded ((!y) == false) rfl rfl rfl rfl fun h => v_call (ok_layout_within (gdT h_y2 h)) (.cons (ow rfl h) (.b rfl) <| .cons (ov rfl) (.b rfl) <| .cons (ov rfl) (.b rfl) <| .nil)) ?_
     refine R_q _ rfl (.guarded ((!y) == false) rfl rfl rfl rfl fun h => v_not (ow rfl h)) ?_
     refine R_q _ rfl (v_or (ov rfl) (fun hp => ow rfl (gF hp))) ?_
     refine R_q _ rfl (v_move (ov rfl)) ?_
     refine R_q _ rfl (.guarded (((!y) || (!y2)) == false) rfl rfl rfl rfl fun h => v_fieldP (ov rfl) rfl rfl tF109_2) ?_
     refine R_q _ rfl (.guarded (((!y) || (!y2)) == false) rfl rfl rfl rfl fun h => v_loadS (ow rfl h) rfl rfl rfl tS3 rfl) ?_
     obtain ⟨y3, h_y3, h⟩ := bnd h
     refine R_q _ rfl (.guarded (((!y) || (!y2)) == false) rfl rfl rfl rfl fun h => v_call (ok_layout_within (gdT h_y3 h)) (.cons (ow rfl h) (.b rfl) <| .cons (ov rfl) (.b rfl) <| .cons (ov rfl) (.b rfl) <| .nil)) ?_
     refine R_q _ rfl (.guarded (((!y) || (!y2)) == false) rfl rfl rfl rfl fun h => v_not (ow rfl h)) ?_
     refine R_q _ rfl (v_or (ov rfl) (fun hp => ow rfl (gF hp))) ?_
     refine R_q _ rfl (v_move (ov rfl)) ?_
     refine R_q _ rfl (.guarded ((((!y) || (!y2)) || (!y3)) == false) rfl rfl rfl rfl fun h => v_fieldP (ov rfl) rfl rfl tF109_3) ?_
     refine R_q _ rfl (.guarded ((((!y) || (!y2)) || (!y3)) == false) rfl rfl rfl rfl fun h => v_loadS (ow rfl h) rfl rfl rfl tS3 rfl) ?_
     refine R_q _ rfl (.guarded ((((!y) || (!y2)) || (!y3)) == false) rfl rfl rfl rfl fun h => v_fieldP (ov rfl) rfl rfl tF109_2) ?_
     refine R_q _ rfl (.guarded ((((!y) || (!y2)) || (!y3)) == false) rfl rfl rfl rfl fun h => v_loadS (ow rfl h) rfl rfl rfl tS3 rfl) ?_
     refine R_q _ rfl (.guarded ((((!y) || (!y2)) || (!y3)) == false) rfl rfl rfl rfl fun h => v_sub (ov rfl) (ow rfl h) rfl) ?_
     obtain ⟨y4, h_y4, h⟩ := bnd h
     refine R_q _ rfl (.guarded ((((!y) || (!y2)) || (!y3)) == false) rfl rfl rfl rfl fun h => v_call (ok_layout_within (gdT h_y4 h)) (.cons (ow rfl h) (.b rfl) <| .cons (ov rfl) (.b rfl) <| .cons (ow rfl h) (.b rfl) <| .nil)) ?_
     refine R_q _ rfl (.guarded ((((!y) || (!y2)) || (!y3)) == false) rfl rfl rfl rfl fun h => v_not (ow rfl h)) ?_
     refine R_q _ rfl (v_or (ov rfl) (fun hp => ow rfl (gF hp))) ?_
     refine R_nil ?_
     refine T_keep (kc 1 rfl <| kc 19 rfl <| kc 20 rfl <| kc 21 rfl <| kc 49 rfl <| kn) rfl ?_
     refine T_if h rfl (fun b49 h => ?_) (fun b49 h => ?_)
     ·
      refine T_keep (kn) rfl ?_
      refine T_seq (T_reg ?_)
      refine R_q _ rfl (v_assign (ov rfl)) ?_
      refine R_nil ?_
      rw [lx h] at ho1
      replace h := ho1
      obtain rfl := rt (v := 9) h
      refine T_ret (retq ?_ (.one (.tmp rfl (Dat.view (.b rfl)))))
      rfl
     ·
      refine T_skip ?_
      refine T_keep (kc 1 rfl <| kc 19 rfl <| kc 20 rfl <| kc 21 rfl <| kn) rfl ?_
      refine T_reg ?_
      refine R_q _ rfl (v_add (ov rfl) (ov rfl) rfl) ?_
      refine R_q _ rfl (v_move (ov rfl)) ?_
      refine R_nil ?_
      exact ⟨(i64 (i + 1)), h, Ent.sel [] (sd 1 rfl rfl <| sd 19 rfl rfl <| sd 20 rfl rfl <| sd 21 rfl rfl <| sn) (.nil) rfl rfl⟩
    ·
     refine T_exit ?_
     rw [lx h] at ho1
     replace h := ho1
     exact ⟨(), h, Ent.sel [] (sd 1 rfl rfl <| sn) (.nil) rfl rfl⟩
   ·
    replace h := elr h
    cases j
    replace h := t0i h
    refine t0T ?_
    refine T_seq ?_
    refine T_seq (T_reg ?_)
    refine R_q _ rfl (v_loadA_r (ov rfl) tA43 rfl rfl) ?_
    obtain ⟨y5, h_y5, h⟩ := bnd h
    refine R_q _ rfl (v_call (ok_layout_bitsOf h_y5) (.cons (ov rfl) (.aggB rfl) <| .nil)) ?_
    refine R_q _ rfl (v_gtr (ov rfl) (ov rfl)) ?_
    refine R_nil ?_
    refine T_keep (kc 1 rfl <| kc 53 rfl <| kn) rfl ?_
    refine T_if h rfl (fun b53 h => ?_) (fun b53 h => ?_)
    ·
     refine T_keep (kn) rfl ?_
     refine T_seq (T_reg ?_)
     refine R_q _ rfl (v_assign (ov rfl)) ?_
     refine R_nil ?_
     obtain rfl := rt (v := 3) h
     refine T_ret (retq ?_ (.one (.tmp rfl (Dat.view (.b rfl)))))
     rfl
    ·
     refine T_skip ?_
     refine T_keep (kc 1 rfl <| kn) rfl ?_
     refine T_seq (T_reg ?_)
     refine R_q (.sl 3 (List.map R3 ([1, 2, 4, 8, 16] : List Int))) rfl (v_lit tL25 (.cons (cvs (ov rfl) (cell1_b rfl)) rfl (.cons (.b rfl) .nil) <| .cons (cvs (ov rfl) (cell1_b rfl)) rfl (.cons (.b rfl) .nil) <| .cons (cvs (ov rfl) (cell1_b rfl)) rfl (.cons (.b rfl) .nil) <| .cons (cvs (ov rfl) (cell1_b rfl)) rfl (.cons (.b rfl) .nil) <| .cons (cvs (ov rfl) (cell1_b rfl)) rfl (.cons (.b rfl) .nil) <| .nil) rfl rfl) ?_
     refine R_q _ rfl (v_fieldR (ov rfl) tF43_4) ?_
     refine R_q _ rfl (v_loadS_r (ov rfl) tS3 rfl) ?_
     obtain ⟨y6, h_y6, h⟩ := bnd h
     refine R_q _ rfl (v_call (ok_slices_Contains_int_int h_y6) (.cons (ov rfl) (.b rfl) <| .cons (ov rfl) (.b rfl) <| .nil)) ?_
     refine R_q _ rfl (v_assign (ov rfl)) ?_
     refine R_nil ?_
     refine T_seq ?_
     refine T_keep (kc 1 rfl <| kc 5 rfl <| kn) rfl ?_
     refine T_seq (T_reg ?_)
     refine R_q _ rfl (v_move (ov rfl)) ?_
     refine R_q _ rfl (v_not (ov rfl)) ?_
     refine R_q _ rfl (v_move (ov rfl)) ?_
     refine R_q _ rfl (.guarded ((!y6) == false) rfl rfl rfl rfl fun h => v_fieldR (ov rfl) tF43_3) ?_
     refine R_q _ rfl (.guarded ((!y6) == false) rfl rfl rfl rfl fun h => v_loadS_r (ow rfl h) tS3 rfl) ?_
     refine R_q _ rfl (.guarded ((!y6) == false) rfl rfl rfl rfl fun h => v_fieldR (ov rfl) tF43_4) ?_
     refine R_q _ rfl (.guarded ((!y6) == false) rfl rfl rfl rfl fun h => v_loadS_r (ow rfl h) tS3 rfl) ?_
     refine R_q _ rfl (.guarded ((!y6) == false) rfl rfl rfl rfl fun h => v_sub (ow rfl h) (ov rfl) rfl) ?_
     obtain ⟨y7, h_y7, h⟩ := bnd h
     refine R_q _ rfl (.guarded ((!y6) == false) rfl rfl rfl rfl fun h => v_call (ok_layout_within (gdT h_y7 h)) (.cons (ow rfl h) (.b rfl) <| .cons (ov rfl) (.b rfl) <| .cons (ow rfl h) (.b rfl) <| .nil)) ?_
     refine R_q _ rfl (.guarded ((!y6) == false) rfl rfl rfl rfl fun h => v_not (ow rfl h)) ?_
     refine R_q _ rfl (v_or (ov rfl) (fun hp => ow rfl (gF hp))) ?_
     refine R_q _ rfl (v_move (ov rfl)) ?_
     refine R_q _ rfl (.guarded (((!y6) || (!y7)) == false) rfl rfl rfl rfl fun h => v_fieldR (ov rfl) tF43_5) ?_
     refine R_q _ rfl (.guarded (((!y6) || (!y7)) == false) rfl rfl rfl rfl fun h => v_loadS_r (ow rfl h) tS3 rfl) ?_
     obtain ⟨y8, h_y8, h⟩ := bnd h
     refine R_q _ rfl (.guarded (((!y6) || (!y7)) == false) rfl rfl rfl rfl fun h => v_call (ok_layout_within (gdT h_y8 h)) (.cons (ow rfl h) (.b rfl) <| .cons (ov rfl) (.b rfl) <| .cons (ov rfl) (.b rfl) <| .nil)) ?_
     refine R_q _ rfl (.guarded (((!y6) || (!y7)) == false) rfl rfl rfl rfl fun h => v_not (ow rfl h)) ?_
     refine R_q _ rfl (v_or (ov rfl) (fun hp => ow rfl (gF hp))) ?_
     refine R_q _ rfl (v_move (ov rfl)) ?_
     refine R_q _ rfl (.guarded ((((!y6) || (!y7)) || (!y8)) == false) rfl rfl rfl rfl fun h => v_fieldR (ov rfl) tF43_6) ?_
     refine R_q _ rfl (.guarded ((((!y6) || (!y7)) || (!y8)) == false) rfl rfl rfl rfl fun h => v_loadS_r (ow rfl h) tS3 rfl) ?_
     refine R_q _ rfl (.guarded ((((!y6) || (!y7)) || (!y8)) == false) rfl rfl rfl rfl fun h => v_lss (ow rfl h) (ov rfl)) ?_
     refine R_q _ rfl (v_or (ov rfl) (fun hp => ow rfl (gF hp))) ?_
     refine R_q _ rfl (v_move (ov rfl)) ?_
     refine R_q _ rfl (.guarded (((((!y6) || (!y7)) || (!y8)) || (decide (p.Step < 0))) == false) rfl rfl rfl rfl fun h => v_fieldR (ov rfl) tF43_6) ?_
     refine R_q _ rfl (.guarded (((((!y6) || (!y7)) || (!y8)) || (decide (p.Step < 0))) == false) rfl rfl rfl rfl fun h => v_loadS_r (ow rfl h) tS3 rfl) ?_
     refine R_q _ rfl (.guarded (((((!y6) || (!y7)) || (!y8)) || (decide (p.Step < 0))) == false) rfl rfl rfl rfl fun h => v_eql (ow rfl h) (ov rfl)) ?_
     refine R_q _ rfl (.guarded (((((!y6) || (!y7)) || (!y8)) || (decide (p.Step < 0))) == false) rfl rfl rfl rfl fun h => v_fieldR (ov rfl) tF43_5) ?_
     refine R_q _ rfl (.guarded (((((!y6) || (!y7)) || (!y8)) || (decide (p.Step < 0))) == false) rfl rfl rfl rfl fun h => v_loadS_r (ow rfl h) tS3 rfl) ?_
     refine R_q _ rfl (.guarded (((((!y6) || (!y7)) || (!y8)) || (decide (p.Step < 0))) == false) rfl rfl rfl rfl fun h => v_eql (ow rfl h) (ov rfl)) ?_
     refine R_q _ rfl (.guarded (((((!y6) || (!y7)) || (!y8)) || (decide (p.Step < 0))) == false) rfl rfl rfl rfl fun h => tBool_eq .neq (by simp) (ow rfl h) (ow rfl h) tB4) ?_
     refine R_q _ rfl (v_or (ov rfl) (fun hp => ow rfl (gF hp))) ?_
     refine R_nil ?_
     refine T_keep (kc 1 rfl <| kc 88 rfl <| kn) rfl ?_
     refine T_if h rfl (fun b88 h => ?_) (fun b88 h => ?_)
     ·
      refine T_keep (kn) rfl ?_
      refine T_seq (T_reg ?_)
      refine R_q _ rfl (v_assign (ov rfl)) ?_
      refine R_nil ?_
      obtain rfl := rt (v := 9) h
      refine T_ret (retq ?_ (.one (.tmp rfl (Dat.view (.b rfl)))))
      rfl
     ·
      refine T_skip ?_
      refine T_joinG (fun j => (.inr j)) (t0 ⟨[], []⟩) h (fun h => ?_) (fun j h => ?_)
      ·
       refine T_keep (kc 1 rfl <| kn) rfl ?_
       refine T_seq (T_reg ?_)
       refine R_q _ rfl (v_fieldR (ov rfl) tF43_2) ?_
       refine R_q _ rfl (v_loadS_r (ov rfl) tS40 rfl) ?_
       refine R_q _ rfl (v_len (slv_sl (ov rfl) tZ_109) tL40 (len_map _ _)) ?_
       refine R_q _ rfl (v_move (ov rfl)) ?_
       refine R_nil ?_
       refine T_block ?_
       obtain ⟨r2, hl2, ho2⟩ := bndL h
       refine T_loopG _ (t1 fun i2 => ⟨[(1, .rp [.str p.Name, .int .i64 p.Kind, .sl 109 (List.map R109 p.Parts), .int .i64 p.First, .int .i64 p.Every, .int .i64 p.Times, .int .i64 p.Step, .sl 9 (List.map R9 p.Names)] 0), (90, .sl 109 (List.map R109 p.Parts)), (91, .int .i64 (p.Parts.length : Int)), (92, .int .i64 i2)], []⟩) _ hl2 (Ent.sel [] (sd 1 rfl rfl <| sd 90 rfl rfl <| sd 91 rfl rfl <| sd 92 rfl rfl <| sn) (.nil) rfl rfl) (fun n2 s2 h => ?_)
       obtain ⟨i2, rfl⟩ : ∃ x, x = s2 := ⟨_, rfl⟩
       replace h := t1i h
       refine t1T ?_
       unfold layout_checkParts_L2 at h
       refine T_seq (T_reg ?_)
       refine R_q _ rfl (v_lss (ov rfl) (ov rfl)) ?_
       refine R_nil ?_
       refine T_seq ?_
       refine T_if h rfl (fun b93 h => ?_) (fun b93 h => ?_)
       ·
        refine T_skip ?_
        refine T_seq ?_
        refine T_block ?_
        refine T_keep (kc 1 rfl <| kc 90 rfl <| kc 91 rfl <| kc 92 rfl <| kn) rfl ?_
        refine T_seq (T_reg ?_)
        obtain ⟨x2, h_x2, h⟩ := bnd h
        refine R_q _ rfl (v_ixSG (ov rfl) (ov rfl) tL40 h_x2) ?_
        refine R_q _ rfl (v_loadA_r (ov rfl) tA109 rfl rfl) ?_
        refine R_w _ _ rfl (w_alloc (row := [_, _, _, _]) 0 rfl tZ109 rfl tZ_109) ?_
        refine R_w _ _ rfl (w_store (ov rfl) (ov rfl) (cells_agg tA109 rfl) rfl rfl rfl (Nat.le_of_ble_eq_true rfl) (cell1_all rfl) rfl) ?_
        refine R_nil ?_
        refine T_keep (kc 1 rfl <| kc 7 rfl <| kc 90 rfl <| kc 91 rfl <| kc 92 rfl <| kn) rfl ?_
        refine T_seq (T_reg ?_)
        refine R_q _ rfl (v_fieldR (ov rfl) tF43_6) ?_
        refine R_q _ rfl (v_loadS_r (ov rfl) tS3 rfl) ?_
        refine R_q _ rfl (v_gtr (ov rfl) (ov rfl)) ?_
        refine R_q _ rfl (v_move (ov rfl)) ?_
        refine R_q _ rfl (.guarded ((decide (60 < p.Step)) == false) rfl rfl rfl rfl fun h => v_fieldP (ov rfl) rfl rfl tF109_1) ?_
        refine R_q _ rfl (.guarded ((decide (60 < p.Step)) == false) rfl rfl rfl rfl fun h => v_loadS (ow rfl h) rfl rfl rfl tS3 rfl) ?_
        refine R_q _ rfl (.guarded ((decide (60 < p.Step)) == false) rfl rfl rfl rfl fun h => v_fieldR (ov rfl) tF43_5) ?_
        refine R_q _ rfl (.guarded ((decide (60 < p.Step)) == false) rfl rfl rfl rfl fun h => v_loadS_r (ow rfl h) tS3 rfl) ?_
        refine R_q _ rfl (.guarded ((decide (60 < p.Step)) == false) rfl rfl rfl rfl fun h => v_sub (ow rfl h) (ov rfl) rfl) ?_
        refine R_q _ rfl (.guarded ((decide (60 < p.Step)) == false) rfl rfl rfl rfl fun h => v_fieldR (ov rfl) tF43_6) ?_
        refine R_q _ rfl (.guarded ((decide (60 < p.Step)) == false) rfl rfl rfl rfl fun h => v_loadS_r (ow rfl h) tS3 rfl) ?_
        refine R_q _ rfl (.guarded ((decide (60 < p.Step)) == false) rfl rfl rfl rfl fun h => v_mul (ow rfl h) (ow rfl h) rfl) ?_
        refine R_q _ rfl (.guarded ((decide (60 < p.Step)) == false) rfl rfl rfl rfl fun h => v_add (ow rfl h) (ow rfl h) rfl) ?_
        refine R_q _ rfl (.guarded ((decide (60 < p.Step)) == false) rfl rfl rfl rfl fun h => v_gtr (ow rfl h) (ov rfl)) ?_
        refine R_q _ rfl (v_or (ov rfl) (fun hp => ow rfl (gF hp))) ?_
        refine R_nil ?_
        refine T_keep (kc 1 rfl <| kc 90 rfl <| kc 91 rfl <| kc 92 rfl <| kc 110 rfl <| kn) rfl ?_
        refine T_if h rfl (fun b110 h => ?_) (fun b110 h => ?_)
        ·
         refine T_keep (kn) rfl ?_
         refine T_seq (T_reg ?_)
         refine R_q _ rfl (v_assign (ov rfl)) ?_
         refine R_nil ?_
         rw [lx h] at ho2
         replace h := ho2
         obtain rfl := rt (v := 9) h
         refine T_ret (retq ?_ (.one (.tmp rfl (Dat.view (.b rfl)))))
         rfl
        ·
         refine T_skip ?_
         refine T_keep (kc 1 rfl <| kc 90 rfl <| kc 91 rfl <| kc 92 rfl <| kn) rfl ?_
         refine T_reg ?_
         refine R_q _ rfl (v_add (ov rfl) (ov rfl) rfl) ?_
         refine R_q _ rfl (v_move (ov rfl)) ?_
         refine R_nil ?_
         exact ⟨(i64 (i2 + 1)), h, Ent.sel [] (sd 1 rfl rfl <| sd 90 rfl rfl <| sd 91 rfl rfl <| sd 92 rfl rfl <| sn) (.nil) rfl rfl⟩
       ·
        refine T_exit ?_
        rw [lx h] at ho2
        replace h := ho2
        exact ⟨(), h, Ent.sel [] (sn) (.nil) rfl rfl⟩
      ·
       replace h := elr h
       cases j
       replace h := t0i h
       refine t0T ?_
       refine T_seq (T_reg ?_)
       refine R_q _ rfl (v_assign (ov rfl)) ?_
       refine R_nil ?_
       obtain rfl := rt (v := 0) h
       refine T_ret (retq ?_ (.one (.tmp rfl (Dat.view (.b rfl)))))
       rfl

theorem ok_slices_Index_string_string {s : List Str} {v : Str} {r : Int} (h : slices_Index_string_string s v = some r) :
  CSpec Try.prog gl0 130 [.sl 9 (List.map R9 s), .str v] (.int .i64 r) := by
 unfold slices_Index_string_string at h
 replace h := bnd0 h
 refine spec_of (by kernel_rfl) Try.func130 rfl rfl ?_
 intro w0 A
 refine T_seq (T_reg ?_)
 refine R_q _ rfl (v_assign (ov rfl)) ?_
 refine R_nil ?_
 refine T_joinG (fun j => (.inr j)) (t0 ⟨[], []⟩) h (fun h => ?_) (fun j h => ?_)
 ·
  refine T_keep (kc 0 rfl <| kc 1 rfl <| kn) rfl ?_
  refine T_seq (T_reg ?_)
  refine R_q _ rfl (v_move (ov rfl)) ?_
  refine R_q _ rfl (v_len (slv_sl (ov rfl) tZ_9) tL41 (len_map _ _)) ?_
  refine R_q _ rfl (v_move (ov rfl)) ?_
  refine R_nil ?_
  refine T_block ?_
  obtain ⟨r1, hl1, ho1⟩ := bndL h
  refine T_loopG _ (t1 fun i => ⟨[(0, .sl 9 (List.map R9 s)), (1, .str v), (7, .int .i64 (s.length : Int)), (8, .int .i64 i)], []⟩) _ hl1 (Ent.sel [] (sd 0 rfl rfl <| sd 1 rfl rfl <| sd 7 rfl rfl <| sd 8 rfl rfl <| sn) (.nil) rfl rfl) (fun n1 s1 h => ?_)
  obtain ⟨i, rfl⟩ : ∃ x, x = s1 := ⟨_, rfl⟩
  replace h := t1i h
  refine t1T ?_
  unfold slices_Index_string_string_L1 at h
  refine T_seq (T_reg ?_)
  refine R_q _ rfl (v_lss (ov rfl) (ov rfl)) ?_
  refine R_nil ?_
  refine T_seq ?_
  refine T_if h rfl (fun b9 h => ?_) (fun b9 h => ?_)
  ·
   refine T_skip ?_
   refine T_seq ?_
   refine T_block ?_
   refine T_keep (kc 0 rfl <| kc 1 rfl <| kc 7 rfl <| kc 8 rfl <| kn) rfl ?_
   refine T_seq (T_reg ?_)
   refine R_q _ rfl (v_move (ov rfl)) ?_
   refine R_q _ rfl (v_assign (ov rfl)) ?_
   refine R_nil ?_
   refine T_keep (kc 0 rfl <| kc 1 rfl <| kc 5 rfl <| kc 7 rfl <| kc 8 rfl <| kn) rfl ?_
   refine T_seq (T_reg ?_)
   refine R_q _ rfl (v_move (ov rfl)) ?_
   refine R_q _ rfl (v_move (ov rfl)) ?_
   refine R_q _ rfl (v_move (ov rfl)) ?_
   obtain ⟨x, h_x, h⟩ := bnd h
   refine R_q _ rfl (v_ixSG (ov rfl) (ov rfl) tL41 h_x) ?_
   refine R_q _ rfl (v_loadS_r (ov rfl) tS9 rfl) ?_
   refine R_q _ rfl (v_eqlStr (ov rfl) (ov rfl)) ?_
   refine R_nil ?_
   refine T_keep (kc 0 rfl <| kc 1 rfl <| kc 5 rfl <| kc 7 rfl <| kc 8 rfl <| kc 16 rfl <| kn) rfl ?_
   refine T_if h rfl (fun b16 h => ?_) (fun b16 h => ?_)
   ·
    refine T_keep (kc 5 rfl <| kn) rfl ?_
    refine T_seq (T_reg ?_)
    refine R_q _ rfl (v_move (ov rfl)) ?_
    refine R_q _ rfl (v_assign (ov rfl)) ?_
    refine R_nil ?_
    rw [lx h] at ho1
    replace h := ho1
    obtain rfl := rt (v := i) h
    refine T_ret (retq ?_ (.one (.tmp rfl (Dat.view (.b rfl)))))
    rfl
   ·
    refine T_skip ?_
    refine T_keep (kc 0 rfl <| kc 1 rfl <| kc 7 rfl <| kc 8 rfl <| kn) rfl ?_
    refine T_reg ?_
    refine R_q _ rfl (v_add (ov rfl) (ov rfl) rfl) ?_
    refine R_q _ rfl (v_move (ov rfl)) ?_
    refine R_nil ?_
    exact ⟨(i64 (i + 1)), h, Ent.sel [] (sd 0 rfl rfl <| sd 1 rfl rfl <| sd 7 rfl rfl <| sd 8 rfl rfl <| sn) (.nil) rfl rfl⟩
  ·
   refine T_exit ?_
   rw [lx h] at ho1
   replace h := ho1
   exact ⟨(), h, Ent.sel [] (sn) (.nil) rfl rfl⟩
 ·
  replace h := elr h
  cases j
  replace h := t0i h
  refine t0T ?_
  refine T_seq (T_reg ?_)
  refine R_q _ rfl (v_assign (ov rfl)) ?_
  refine R_nil ?_
  obtain rfl := rt (v := (-1)) h
  refine T_ret (retq ?_ (.one (.tmp rfl (Dat.view (.b rfl)))))
  rfl

theorem ok_slices_Contains_string_string {s : List Str} {v : Str} {r : Bool} (h : slices_Contains_string_string s v = some r) :
  CSpec Try.prog gl0 95 [.sl 9 (List.map R9 s), .str v] (.bool r) := by
 unfold slices_Contains_string_string at h
 replace h := bnd0 h
 refine spec_of (by kernel_rfl) Try.func95 rfl rfl ?_
 intro w0 A
 refine T_seq (T_reg ?_)
 refine R_q _ rfl (v_assign (ov rfl)) ?_
 refine R_nil ?_
 refine T_seq (T_reg ?_)
 refine R_q _ rfl (v_move (ov rfl)) ?_
 refine R_q _ rfl (v_move (ov rfl)) ?_
 obtain ⟨y, h_y, h⟩ := bnd h
 refine R_q _ rfl (v_call (ok_slices_Index_string_string h_y) (.cons (ov rfl) (.b rfl) <| .cons (ov rfl) (.b rfl) <| .nil)) ?_
 refine R_q _ rfl (v_geq (ov rfl) (ov rfl)) ?_
 refine R_q _ rfl (v_assign (ov rfl)) ?_
 refine R_nil ?_
 obtain rfl := rt (v := (decide (0 ≤ y))) h
 refine T_ret (retq ?_ (.one (.tmp rfl (Dat.view (.b rfl)))))
 rfl

theorem ok_layout_checkNames {p : api_Param} {r : Int} (h : layout_checkNames p = some r) :
  CSpec Try.prog gl0 82 [.agg [.str p.Name, .int .i64 p.Kind, .sl 109 (List.map R109 p.Parts), .int .i64 p.First, .int .i64 p.Every, .int .i64 p.Times, .int .i64 p.Step, .sl 9 (List.map R9 p.Names)]] (.int .i64 r) := by
 unfold layout_checkNames at h
 replace h := bnd0 h
 refine spec_of (by kernel_rfl) Try.func82 rfl rfl ?_
 intro w0 A
 refine T_seq (T_reg ?_)
 refine R_q _ rfl (v_boxD (cva (ov rfl)) rfl tZ_43 rfl) ?_
 refine R_q _ rfl (v_assign (ov rfl)) ?_
 refine R_nil ?_
 refine T_keep (kc 1 rfl <| kn) rfl ?_
 refine T_seq (T_reg ?_)
 refine R_q _ rfl (v_loadA_r (ov rfl) tA43 rfl rfl) ?_
 obtain ⟨y, h_y, h⟩ := bnd h
 refine R_q _ rfl (v_call (ok_layout_bitsOf h_y) (.cons (ov rfl) (.aggB rfl) <| .nil)) ?_
 refine R_q _ rfl (v_assign (ov rfl)) ?_
 refine R_nil ?_
 refine T_seq ?_
 refine T_keep (kc 1 rfl <| kc 3 rfl <| kn) rfl ?_
 refine T_seq (T_reg ?_)
 refine R_q _ rfl (v_fieldR (ov rfl) tF43_1) ?_
 refine R_q _ rfl (v_loadS_r (ov rfl) tS3 rfl) ?_
 refine R_q _ rfl (v_eql (ov rfl) (ov rfl)) ?_
 refine R_q _ rfl (v_move (ov rfl)) ?_
 refine R_q _ rfl (.guarded ((decide (p.Kind = 4)) == true) rfl rfl rfl rfl fun h => v_move (ov rfl)) ?_
 obtain ⟨q, h_q, h⟩ := bnd h
 refine R_q _ rfl (.guarded ((decide (p.Kind = 4)) == true) rfl rfl rfl rfl fun h => v_remG (ow rfl h) (ov rfl) (gdT h_q h)) ?_
 refine R_q _ rfl (.guarded ((decide (p.Kind = 4)) == true) rfl rfl rfl rfl fun h => v_neq (ow rfl h) (ov rfl)) ?_
 refine R_q _ rfl (v_and (ov rfl) (fun hp => ow rfl (gT hp))) ?_
 refine R_q _ rfl (v_move (ov rfl)) ?_
 refine R_q _ rfl (.guarded (((decide (p.Kind = 4)) && (!decide (q = 0))) == false) rfl rfl rfl rfl fun h => v_fieldR (ov rfl) tF43_1) ?_
 refine R_q _ rfl (.guarded (((decide (p.Kind = 4)) && (!decide (q = 0))) == false) rfl rfl rfl rfl fun h => v_loadS_r (ow rfl h) tS3 rfl) ?_
 refine R_q _ rfl (.guarded (((decide (p.Kind = 4)) && (!decide (q = 0))) == false) rfl rfl rfl rfl fun h => v_eql (ow rfl h) (ov rfl)) ?_
 refine R_q _ rfl (.guarded (((decide (p.Kind = 4)) && (!decide (q = 0))) == false) rfl rfl rfl rfl fun h => v_move (ow rfl h)) ?_
 refine R_q _ rfl (.guarded2 ((((decide (p.Kind = 4)) && (!decide (q = 0))) == false) && ((decide (p.Kind = 5)) == true)) rfl rfl rfl rfl fun h => v_move (ov rfl)) ?_
 refine R_q _ rfl (.guarded2 ((((decide (p.Kind = 4)) && (!decide (q = 0))) == false) && ((decide (p.Kind = 5)) == true)) rfl rfl rfl rfl fun h => v_neq (ow rfl h) (ov rfl)) ?_
 refine R_q _ rfl (.guarded (((decide (p.Kind = 4)) && (!decide (q = 0))) == false) rfl rfl rfl rfl fun h => v_and (ow rfl h) (fun hp => ow rfl (gA h (gT hp)))) ?_
 refine R_q _ rfl (v_or (ov rfl) (fun hp => ow rfl (gF hp))) ?_
 refine R_q _ rfl (v_move (ov rfl)) ?_
 refine R_q _ rfl (.guarded ((((decide (p.Kind = 4)) && (!decide (q = 0))) || ((decide (p.Kind = 5)) && (!decide (y = 1)))) == false) rfl rfl rfl rfl fun h => v_fieldR (ov rfl) tF43_1) ?_
 refine R_q _ rfl (.guarded ((((decide (p.Kind = 4)) && (!decide (q = 0))) || ((decide (p.Kind = 5)) && (!decide (y = 1)))) == false) rfl rfl rfl rfl fun h => v_loadS_r (ow rfl h) tS3 rfl) ?_
 refine R_q _ rfl (.guarded ((((decide (p.Kind = 4)) && (!decide (q = 0))) || ((decide (p.Kind = 5)) && (!decide (y = 1)))) == false) rfl rfl rfl rfl fun h => v_eql (ow rfl h) (ov rfl)) ?_
 refine R_q _ rfl (.guarded ((((decide (p.Kind = 4)) && (!decide (q = 0))) || ((decide (p.Kind = 5)) && (!decide (y = 1)))) == false) rfl rfl rfl rfl fun h => v_move (ow rfl h)) ?_
 refine R_q _ rfl (.guarded2 (((((decide (p.Kind = 4)) && (!decide (q = 0))) || ((decide (p.Kind = 5)) && (!decide (y = 1)))) == false) && ((decide (p.Kind = 2)) == false)) rfl rfl rfl rfl fun h => v_fieldR (ov rfl) tF43_1) ?_
 refine R_q _ rfl (.guarded2 (((((decide (p.Kind = 4)) && (!decide (q = 0))) || ((decide (p.Kind = 5)) && (!decide (y = 1)))) == false) && ((decide (p.Kind = 2)) == false)) rfl rfl rfl rfl fun h => v_loadS_r (ow rfl h) tS3 rfl) ?_
 refine R_q _ rfl (.guarded2 (((((decide (p.Kind = 4)) && (!decide (q = 0))) || ((decide (p.Kind = 5)) && (!decide (y = 1)))) == false) && ((decide (p.Kind = 2)) == false)) rfl rfl rfl rfl fun h => v_eql (ow rfl h) (ov rfl)) ?_
 refine R_q _ rfl (.guarded ((((decide (p.Kind = 4)) && (!decide (q = 0))) || ((decide (p.Kind = 5)) && (!decide (y = 1)))) == false) rfl rfl rfl rfl fun h => v_or (ow rfl h) (fun hp => ow rfl (gA h (gF hp)))) ?_
 refine R_q _ rfl (.guarded ((((decide (p.Kind = 4)) && (!decide (q = 0))) || ((decide (p.Kind = 5)) && (!decide (y = 1)))) == false) rfl rfl rfl rfl fun h => v_move (ow rfl h)) ?_
 refine R_q _ rfl (.guarded2 (((((decide (p.Kind = 4)) && (!decide (q = 0))) || ((decide (p.Kind = 5)) && (!decide (y = 1)))) == false) && (((decide (p.Kind = 2)) || (decide (p.Kind = 3))) == true)) rfl rfl rfl rfl fun h => v_move (ov rfl)) ?_
 refine R_q _ rfl (.guarded2 (((((decide (p.Kind = 4)) && (!decide (q = 0))) || ((decide (p.Kind = 5)) && (!decide (y = 1)))) == false) && (((decide (p.Kind = 2)) || (decide (p.Kind = 3))) == true)) rfl rfl rfl rfl fun h => v_eql (ow rfl h) (ov rfl)) ?_
 refine R_q _ rfl (.guarded ((((decide (p.Kind = 4)) && (!decide (q = 0))) || ((decide (p.Kind = 5)) && (!decide (y = 1)))) == false) rfl rfl rfl rfl fun h => v_and (ow rfl h) (fun hp => ow rfl (gA h (gT hp)))) ?_
 refine R_q _ rfl (v_or (ov rfl) (fun hp => ow rfl (gF hp))) ?_
 refine R_nil ?_
 refine T_keep (kc 1 rfl <| kc 3 rfl <| kc 38 rfl <| kn) rfl ?_
 refine T_if h rfl (fun b38 h => ?_) (fun b38 h => ?_)
 ·
  refine T_keep (kn) rfl ?_
  refine T_seq (T_reg ?_)
  refine R_q _ rfl (v_assign (ov rfl)) ?_
  refine R_nil ?_
  obtain rfl := rt (v := 2) h
  refine T_ret (retq ?_ (.one (.tmp rfl (Dat.view (.b rfl)))))
  rfl
 ·
  refine T_skip ?_
  refine T_seq ?_
  refine T_keep (kc 1 rfl <| kc 3 rfl <| kn) rfl ?_
  refine T_seq (T_reg ?_)
  refine R_q _ rfl (v_fieldR (ov rfl) tF43_1) ?_
  refine R_q _ rfl (v_loadS_r (ov rfl) tS3 rfl) ?_
  refine R_q _ rfl (v_neq (ov rfl) (ov rfl)) ?_
  refine R_nil ?_
  refine T_keep (kc 1 rfl <| kc 3 rfl <| kc 41 rfl <| kn) rfl ?_
  refine T_if h rfl (fun b41 h => ?_) (fun b41 h => ?_)
  ·
   refine T_seq ?_
   refine T_keep (kc 1 rfl <| kn) rfl ?_
   refine T_seq (T_reg ?_)
   refine R_q _ rfl (v_fieldR (ov rfl) tF43_7) ?_
   refine R_q _ rfl (v_loadS_r (ov rfl) tS41 rfl) ?_
   refine R_q _ rfl (v_len (slv_sl (ov rfl) tZ_9) tL41 (len_map _ _)) ?_
   refine R_q _ rfl (v_gtr (ov rfl) (ov rfl)) ?_
   refine R_nil ?_
   refine T_keep (kc 45 rfl <| kn) rfl ?_
   refine T_if h rfl (fun b45 h => ?_) (fun b45 h => ?_)
   ·
    refine T_keep (kn) rfl ?_
    refine T_seq (T_reg ?_)
    refine R_q _ rfl (v_assign (ov rfl)) ?_
    refine R_nil ?_
    obtain rfl := rt (v := 2) h
    refine T_ret (retq ?_ (.one (.tmp rfl (Dat.view (.b rfl)))))
    rfl
   ·
    refine T_skip ?_
    refine T_keep (kn) rfl ?_
    refine T_seq (T_reg ?_)
    refine R_q _ rfl (v_assign (ov rfl)) ?_
    refine R_nil ?_
    obtain rfl := rt (v := 0) h
    refine T_ret (retq ?_ (.one (.tmp rfl (Dat.view (.b rfl)))))
    rfl
  ·
   refine T_skip ?_
   refine T_seq ?_
   refine T_block ?_
   refine T_keep (kc 1 rfl <| kc 3 rfl <| kn) rfl ?_
   refine T_seq (T_reg ?_)
   refine R_q _ rfl (v_fieldR (ov rfl) tF43_7) ?_
   refine R_q _ rfl (v_loadS_r (ov rfl) tS41 rfl) ?_
   refine R_q _ rfl (v_len (slv_sl (ov rfl) tZ_9) tL41 (len_map _ _)) ?_
   refine R_q _ rfl (v_eql (ov rfl) (ov rfl)) ?_
   refine R_q _ rfl (v_assign (ov rfl)) ?_
   refine R_nil ?_
   refine T_keep (kc 1 rfl <| kc 3 rfl <| kc 46 rfl <| kn) rfl ?_
   refine T_if h rfl (fun b46 h => ?_) (fun b46 h => ?_)
   ·
    refine T_keep (kn) rfl ?_
    refine T_seq (T_reg ?_)
    refine R_q _ rfl (v_assign (ov rfl)) ?_
    refine R_nil ?_
    obtain rfl := rt (v := 13) h
    refine T_ret (retq ?_ (.one (.tmp rfl (Dat.view (.b rfl)))))
    rfl
   ·
    refine T_keep (kc 1 rfl <| kc 3 rfl <| kn) rfl ?_
    refine T_seq (T_draw (cw := md0) (by kernel_rfl) ?_)
    refine D_q0 0 _ rfl (by kernel_rfl) rfl rfl (v_fieldR (ov rfl) tF43_7) ?_
    refine D_q0 1 _ rfl (by kernel_rfl) rfl rfl (v_loadS_r (ov rfl) tS41 rfl) ?_
    refine D_q0 2 _ rfl (by kernel_rfl) rfl rfl (v_len (slv_sl (ov rfl) tZ_9) tL41 (len_map _ _)) ?_
    refine D_q0 3 _ rfl (by kernel_rfl) rfl rfl (v_gtr (ov rfl) (ov rfl)) ?_
    refine D_q0 4 _ rfl (by kernel_rfl) rfl rfl (v_move (ov rfl)) ?_
    refine D_q0 5 _ rfl (by kernel_rfl) rfl rfl (.guarded ((decide (64 < (p.Names.length : Int))) == false) rfl rfl rfl rfl fun h => v_fieldR (ov rfl) tF43_7) ?_
    refine D_q0 6 _ rfl (by kernel_rfl) rfl rfl (.guarded ((decide (64 < (p.Names.length : Int))) == false) rfl rfl rfl rfl fun h => v_loadS_r (ow rfl h) tS41 rfl) ?_
    refine D_q0 7 _ rfl (by kernel_rfl) rfl rfl (.guarded ((decide (64 < (p.Names.length : Int))) == false) rfl rfl rfl rfl fun h => v_len (slv_sl (ow rfl h) tZ_9) tL41 (len_map _ _)) ?_
    refine D_q0 8 _ rfl (by kernel_rfl) rfl rfl (.guarded ((decide (64 < (p.Names.length : Int))) == false) rfl rfl rfl rfl fun h => v_move (ov rfl)) ?_
    obtain ⟨q2, h_q2, h⟩ := bnd h
    refine D_q0 9 _ rfl (by kernel_rfl) rfl rfl (.guarded ((decide (64 < (p.Names.length : Int))) == false) rfl rfl rfl rfl fun h => v_shlG (ov rfl) (ow rfl h) (gdT h_q2 h)) ?_
    refine D_q0 10 _ rfl (by kernel_rfl) rfl rfl (.guarded ((decide (64 < (p.Names.length : Int))) == false) rfl rfl rfl rfl fun h => v_gtr (ow rfl h) (ow rfl h)) ?_
    refine D_q0 11 _ rfl (by kernel_rfl) rfl rfl (v_or (ov rfl) (fun hp => ow rfl (gF hp))) ?_
    refine D_q0 12 _ rfl (by kernel_rfl) rfl rfl (v_assign (ov rfl)) ?_
    refine D_done (by kernel_rfl) ?_
    refine T_keep (kc 1 rfl <| kc 51 rfl <| kn) rfl ?_
    refine T_if h rfl (fun b51 h => ?_) (fun b51 h => ?_)
    ·
     refine T_keep (kn) rfl ?_
     refine T_seq (T_reg ?_)
     refine R_q _ rfl (v_assign (ov rfl)) ?_
     refine R_nil ?_
     obtain rfl := rt (v := 3) h
     refine T_ret (retq ?_ (.one (.tmp rfl (Dat.view (.b rfl)))))
     rfl
    ·
     refine T_skip ?_
     refine T_joinG (fun j => (.inr j)) (t0 ⟨[], []⟩) h (fun h => ?_) (fun j h => ?_)
     ·
      refine T_keep (kc 1 rfl <| kn) rfl ?_
      refine T_seq (T_reg ?_)
      refine R_q _ rfl (v_fieldR (ov rfl) tF43_7) ?_
      refine R_q _ rfl (v_loadS_r (ov rfl) tS41 rfl) ?_
      refine R_q _ rfl (v_len (slv_sl (ov rfl) tZ_9) tL41 (len_map _ _)) ?_
      refine R_q _ rfl (v_move (ov rfl)) ?_
      refine R_nil ?_
      refine T_block ?_
      obtain ⟨r1, hl1, ho1⟩ := bndL h
      refine T_loopG _ (t1 fun i => ⟨[(1, .rp [.str p.Name, .int .i64 p.Kind, .sl 109 (List.map R109 p.Parts), .int .i64 p.First, .int .i64 p.Every, .int .i64 p.Times, .int .i64 p.Step, .sl 9 (List.map R9 p.Names)] 0), (65, .sl 9 (List.map R9 p.Names)), (66, .int .i64 (p.Names.length : Int)), (67, .int .i64 i)], []⟩) _ hl1 (Ent.sel [] (sd 1 rfl rfl <| sd 65 rfl rfl <| sd 66 rfl rfl <| sd 67 rfl rfl <| sn) (.nil) rfl rfl) (fun n1 s1 h => ?_)
      obtain ⟨i, rfl⟩ : ∃ x, x = s1 := ⟨_, rfl⟩
      replace h := t1i h
      refine t1T ?_
      unfold layout_checkNames_L1 at h
      refine T_seq (T_reg ?_)
      refine R_q _ rfl (v_lss (ov rfl) (ov rfl)) ?_
      refine R_nil ?_
      refine T_seq ?_
      refine T_if h rfl (fun b68 h => ?_) (fun b68 h => ?_)
      ·
       refine T_skip ?_
       refine T_seq ?_
       refine T_block ?_
       refine T_keep (kc 1 rfl <| kc 65 rfl <| kc 66 rfl <| kc 67 rfl <| kn) rfl ?_
       refine T_seq (T_reg ?_)
       refine R_q _ rfl (v_move (ov rfl)) ?_
       obtain ⟨x, h_x, h⟩ := bnd h
       refine R_q _ rfl (v_ixSG (ov rfl) (ov rfl) tL41 h_x) ?_
       refine R_q _ rfl (v_loadS_r (ov rfl) tS9 rfl) ?_
       refine R_q _ rfl (v_assign (ov rfl)) ?_
       refine R_q _ rfl (v_assign (ov rfl)) ?_
       refine R_nil ?_
       refine T_seq ?_
       refine T_keep (kc 1 rfl <| kc 4 rfl <| kc 5 rfl <| kc 65 rfl <| kc 66 rfl <| kc 67 rfl <| kn) rfl ?_
       refine T_seq (T_reg ?_)
       refine R_q _ rfl (v_move (ov rfl)) ?_
       obtain ⟨y2, h_y2, h⟩ := bnd h
       refine R_q _ rfl (v_call (ok_layout_isName h_y2) (.cons (ov rfl) (.b rfl) <| .nil)) ?_
       refine R_q _ rfl (v_not (ov rfl)) ?_
       refine R_nil ?_
       refine T_keep (kc 1 rfl <| kc 4 rfl <| kc 5 rfl <| kc 65 rfl <| kc 66 rfl <| kc 67 rfl <| kc 74 rfl <| kn) rfl ?_
       refine T_if h rfl (fun b74 h => ?_) (fun b74 h => ?_)
       ·
        refine T_keep (kn) rfl ?_
        refine T_seq (T_reg ?_)
        refine R_q _ rfl (v_assign (ov rfl)) ?_
        refine R_nil ?_
        rw [lx h] at ho1
        replace h := ho1
        obtain rfl := rt (v := 8) h
        refine T_ret (retq ?_ (.one (.tmp rfl (Dat.view (.b rfl)))))
        rfl
       ·
        refine T_skip ?_
        refine T_keep (kc 1 rfl <| kc 4 rfl <| kc 5 rfl <| kc 65 rfl <| kc 66 rfl <| kc 67 rfl <| kn) rfl ?_
        refine T_seq (T_reg ?_)
        refine R_q _ rfl (v_fieldR (ov rfl) tF43_7) ?_
        refine R_q _ rfl (v_loadS_r (ov rfl) tS41 rfl) ?_
        refine R_q _ rfl (v_move (ov rfl)) ?_
        obtain ⟨l, h_l, h⟩ := bnd h
        refine R_q _ rfl (v_sliceG (ov rfl) tL41 on (oi (ov rfl)) h_l) ?_
        refine R_q _ rfl (v_move (ov rfl)) ?_
        obtain ⟨y3, h_y3, h⟩ := bnd h
        refine R_q _ rfl (v_call (ok_slices_Contains_string_string h_y3) (.cons (ov rfl) (.b rfl) <| .cons (ov rfl) (.b rfl) <| .nil)) ?_
        refine R_nil ?_
        refine T_keep (kc 1 rfl <| kc 65 rfl <| kc 66 rfl <| kc 67 rfl <| kc 80 rfl <| kn) rfl ?_
        refine T_if h rfl (fun b80 h => ?_) (fun b80 h => ?_)
        ·
         refine T_keep (kn) rfl ?_
         refine T_seq (T_reg ?_)
         refine R_q _ rfl (v_assign (ov rfl)) ?_
         refine R_nil ?_
         rw [lx h] at ho1
         replace h := ho1
         obtain rfl := rt (v := 5) h
         refine T_ret (retq ?_ (.one (.tmp rfl (Dat.view (.b rfl)))))
         rfl
        ·
         refine T_skip ?_
         refine T_keep (kc 1 rfl <| kc 65 rfl <| kc 66 rfl <| kc 67 rfl <| kn) rfl ?_
         refine T_reg ?_
         refine R_q _ rfl (v_add (ov rfl) (ov rfl) rfl) ?_
         refine R_q _ rfl (v_move (ov rfl)) ?_
         refine R_nil ?_
         exact ⟨(i64 (i + 1)), h, Ent.sel [] (sd 1 rfl rfl <| sd 65 rfl rfl <| sd 66 rfl rfl <| sd 67 rfl rfl <| sn) (.nil) rfl rfl⟩
      ·
       refine T_exit ?_
       rw [lx h] at ho1
       replace h := ho1
       exact ⟨(), h, Ent.sel [] (sn) (.nil) rfl rfl⟩
     ·
      replace h := elr h
      cases j
      replace h := t0i h
      refine t0T ?_
      refine T_seq (T_reg ?_)
      refine R_q _ rfl (v_assign (ov rfl)) ?_
      refine R_nil ?_
      obtain rfl := rt (v := 0) h
      refine T_ret (retq ?_ (.one (.tmp rfl (Dat.view (.b rfl)))))
      rfl

theorem ok_slices_IndexFunc_api_Part_api_Part {s : List api_Part} {f : api_Part → Option Bool} {r : Int} {f_f : FuncId} {f_c : List AV} (f_d : f_c.all datB = true) (f_h : ∀ (z0 : api_Part) z, f z0 = some z → CSpec Try.prog gl0 f_f ([.agg [.int .i64 z0.Frame, .int .i64 z0.Word, .int .i64 z0.Low, .int .i64 z0.Bits]] ++ f_c) (.bool z)) (h : slices_IndexFunc_api_Part_api_Part s f = some r) :
  CSpec Try.prog gl0 141 [.sl 109 (List.map R109 s), .fn f_f f_c] (.int .i64 r) := by
 unfold slices_IndexFunc_api_Part_api_Part at h
 replace h := bnd0 h
 refine spec_of (by kernel_rfl) Try.func141 rfl rfl ?_
 intro w0 A
 refine T_seq (T_reg ?_)
 refine R_q _ rfl (v_assign (ov rfl)) ?_
 refine R_nil ?_
 refine T_joinG (fun j => (.inr j)) (t0 ⟨[], []⟩) h (fun h => ?_) (fun j h => ?_)
 ·
  refine T_keep (kc 0 rfl <| kc 1 rfl <| kn) rfl ?_
  refine T_seq (T_reg ?_)
  refine R_q _ rfl (v_move (ov rfl)) ?_
  refine R_q _ rfl (v_len (slv_sl (ov rfl) tZ_109) tL40 (len_map _ _)) ?_
  refine R_q _ rfl (v_move (ov rfl)) ?_
  refine R_nil ?_
  refine T_block ?_
  obtain ⟨r1, hl1, ho1⟩ := bndL h
  refine T_loopG _ (t1 fun i => ⟨[(0, .sl 109 (List.map R109 s)), (1, .fn f_f f_c), (7, .int .i64 (s.length : Int)), (8, .int .i64 i)], []⟩) _ hl1 (Ent.sel [] (sd 0 rfl rfl <| sr 1 rfl (rFn (rld f_d)) <| sd 7 rfl rfl <| sd 8 rfl rfl <| sn) (.nil) rfl rfl) (fun n1 s1 h => ?_)
  obtain ⟨i, rfl⟩ : ∃ x, x = s1 := ⟨_, rfl⟩
  replace h := t1i h
  refine t1T ?_
  unfold slices_IndexFunc_api_Part_api_Part_L1 at h
  refine T_seq (T_reg ?_)
  refine R_q _ rfl (v_lss (ov rfl) (ov rfl)) ?_
  refine R_nil ?_
  refine T_seq ?_
  refine T_if h rfl (fun b9 h => ?_) (fun b9 h => ?_)
  ·
   refine T_skip ?_
   refine T_seq ?_
   refine T_block ?_
   refine T_keep (kc 0 rfl <| kc 1 rfl <| kc 7 rfl <| kc 8 rfl <| kn) rfl ?_
   refine T_seq (T_reg ?_)
   refine R_q _ rfl (v_move (ov rfl)) ?_
   refine R_q _ rfl (v_assign (ov rfl)) ?_
   refine R_nil ?_
   refine T_keep (kc 0 rfl <| kc 1 rfl <| kc 5 rfl <| kc 7 rfl <| kc 8 rfl <| kn) rfl ?_
   refine T_seq (T_reg ?_)
   refine R_q _ rfl (v_move (ov rfl)) ?_
   refine R_q _ rfl (v_move (ov rfl)) ?_
   refine R_q _ rfl (v_move (ov rfl)) ?_
   obtain ⟨x, h_x, h⟩ := bnd h
   refine R_q _ rfl (v_ixSG (ov rfl) (ov rfl) tL40 h_x) ?_
   refine R_q _ rfl (v_loadA_r (ov rfl) tA109 rfl rfl) ?_
   obtain ⟨y, h_y, h⟩ := bnd h
   refine R_q _ rfl (v_callC (ov rfl) f_d (f_h _ _ h_y) (.cons (ov rfl) (.aggB rfl) <| .nil)) ?_
   refine R_nil ?_
   refine T_keep (kc 0 rfl <| kc 1 rfl <| kc 5 rfl <| kc 7 rfl <| kc 8 rfl <| kc 16 rfl <| kn) rfl ?_
   refine T_if h rfl (fun b16 h => ?_) (fun b16 h => ?_)
   ·
    refine T_keep (kc 5 rfl <| kn) rfl ?_
    refine T_seq (T_reg ?_)
    refine R_q _ rfl (v_move (ov rfl)) ?_
    refine R_q _ rfl (v_assign (ov rfl)) ?_
    refine R_nil ?_
    rw [lx h] at ho1
    replace h := ho1
    obtain rfl := rt (v := i) h
    refine T_ret (retq ?_ (.one (.tmp rfl (Dat.view (.b rfl)))))
    rfl
   ·
    refine T_skip ?_
    refine T_keep (kc 0 rfl <| kc 1 rfl <| kc 7 rfl <| kc 8 rfl <| kn) rfl ?_
    refine T_reg ?_
    refine R_q _ rfl (v_add (ov rfl) (ov rfl) rfl) ?_
    refine R_q _ rfl (v_move (ov rfl)) ?_
    refine R_nil ?_
    exact ⟨(i64 (i + 1)), h, Ent.sel [] (sd 0 rfl rfl <| sr 1 rfl (rFn (rld f_d)) <| sd 7 rfl rfl <| sd 8 rfl rfl <| sn) (.nil) rfl rfl⟩
  ·
   refine T_exit ?_
   rw [lx h] at ho1
   replace h := ho1
   exact ⟨(), h, Ent.sel [] (sn) (.nil) rfl rfl⟩
 ·
  replace h := elr h
  cases j
  replace h := t0i h
  refine t0T ?_
  refine T_seq (T_reg ?_)
  refine R_q _ rfl (v_assign (ov rfl)) ?_
  refine R_nil ?_
  obtain rfl := rt (v := (-1)) h
  refine T_ret (retq ?_ (.one (.tmp rfl (Dat.view (.b rfl)))))
  rfl

theorem ok_slices_ContainsFunc_api_Part_api_Part {s : List api_Part} {f : api_Part → Option Bool} {r : Bool} {f_f : FuncId} {f_c : List AV} (f_d : f_c.all datB = true) (f_h : ∀ (z0 : api_Part) z, f z0 = some z → CSpec Try.prog gl0 f_f ([.agg [.int .i64 z0.Frame, .int .i64 z0.Word, .int .i64 z0.Low, .int .i64 z0.Bits]] ++ f_c) (.bool z)) (h : slices_ContainsFunc_api_Part_api_Part s f = some r) :
  CSpec Try.prog gl0 136 [.sl 109 (List.map R109 s), .fn f_f f_c] (.bool r) := by
 unfold slices_ContainsFunc_api_Part_api_Part at h
 replace h := bnd0 h
 refine spec_of (by kernel_rfl) Try.func136 rfl rfl ?_
 intro w0 A
 refine T_seq (T_reg ?_)
 refine R_q _ rfl (v_assign (ov rfl)) ?_
 refine R_nil ?_
 refine T_seq (T_reg ?_)
 refine R_q _ rfl (v_move (ov rfl)) ?_
 refine R_q _ rfl (v_move (ov rfl)) ?_
 obtain ⟨y, h_y, h⟩ := bnd h
 refine R_q _ rfl (v_call (ok_slices_IndexFunc_api_Part_api_Part f_d f_h h_y) (.cons (ov rfl) (.b rfl) <| .cons (ov rfl) (Dat.fnC (.refl fun x hx => .b (List.all_eq_true.1 f_d x hx))) <| .nil)) ?_
 refine R_q _ rfl (v_geq (ov rfl) (ov rfl)) ?_
 refine R_q _ rfl (v_assign (ov rfl)) ?_
 refine R_nil ?_
 obtain rfl := rt (v := (decide (0 ≤ y))) h
 refine T_ret (retq ?_ (.one (.tmp rfl (Dat.view (.b rfl)))))
 rfl

theorem ok_layout_starts_1 {x : api_Part} {c0 : Int} {r : Bool} (h : layout_starts_1 x c0 = some r) :
  CSpec Try.prog gl0 137 [.agg [.int .i64 x.Frame, .int .i64 x.Word, .int .i64 x.Low, .int .i64 x.Bits], .rp [.int .i64 c0] 0] (.bool r) := by
 unfold layout_starts_1 at h
 replace h := bnd0 h
 refine spec_of (by kernel_rfl) Try.func137 rfl rfl ?_
 intro w0 A
 refine T_seq (T_reg ?_)
 refine R_q _ rfl (v_boxD (cva (ov rfl)) rfl tZ_109 rfl) ?_
 refine R_q _ rfl (v_assign (ov rfl)) ?_
 refine R_nil ?_
 refine T_keep (kc 1 rfl <| kc 2 rfl <| kc 3 rfl <| kn) rfl ?_
 refine T_seq (T_reg ?_)
 refine R_q _ rfl (v_loadS_r (ov rfl) tS3 rfl) ?_
 refine R_q _ rfl (v_fieldR (ov rfl) tF109_0) ?_
 refine R_q _ rfl (v_loadS_r (ov rfl) tS3 rfl) ?_
 refine R_q _ rfl (v_add (ov rfl) (ov rfl) rfl) ?_
 refine R_q _ rfl (v_geq (ov rfl) (ov rfl)) ?_
 refine R_q _ rfl (v_assign (ov rfl)) ?_
 refine R_nil ?_
 obtain rfl := rt (v := (decide (16 ≤ (i64 (c0 + x.Frame))))) h
 refine T_ret (retq ?_ (.one (.tmp rfl (Dat.view (.b rfl)))))
 rfl

theorem ok_layout_starts {p : api_Param} {r : (List Int)} (h : layout_starts p = some r) :
  CSpec Try.prog gl0 103 [.agg [.str p.Name, .int .i64 p.Kind, .sl 109 (List.map R109 p.Parts), .int .i64 p.First, .int .i64 p.Every, .int .i64 p.Times, .int .i64 p.Step, .sl 9 (List.map R9 p.Names)]] (.sl 3 (List.map R3 r)) := by
 unfold layout_starts at h
 replace h := bnd0 h
 refine spec_of (by kernel_rfl) Try.func103 rfl rfl ?_
 intro w0 A
 refine T_seq (T_reg ?_)
 refine R_q _ rfl (v_boxD (cva (ov rfl)) rfl tZ_43 rfl) ?_
 refine R_q _ rfl (v_assign (ov rfl)) ?_
 refine R_nil ?_
 refine T_keep (kc 1 rfl <| kn) rfl ?_
 refine T_seq (T_reg ?_)
 refine R_q _ rfl (v_assign (ov rfl)) ?_
 refine R_nil ?_
 refine T_joinG id (t1 fun out => ⟨[(3, .own 0 out.length)], [some ⟨3, List.map R3 out⟩]⟩) h (fun h => ?_) (fun j h => ?_)
 ·
  refine T_seq (T_reg ?_)
  refine R_q _ rfl (v_fieldR (ov rfl) tF43_3) ?_
  refine R_q _ rfl (v_loadS_r (ov rfl) tS3 rfl) ?_
  refine R_w _ _ rfl (w_alloc (row := [_]) 0 rfl tZ3 rfl tZ_3) ?_
  refine R_w _ _ rfl (w_store (ov rfl) (ov rfl) (cells_scal tS3) rfl rfl rfl (Nat.le_of_ble_eq_true rfl) (cell1_all rfl) rfl) ?_
  refine R_nil ?_
  refine T_block ?_
  obtain ⟨r1, hl1, ho1⟩ := bndL h
  refine T_loopG _ (t2 fun out2 f => ⟨[(1, .rp [.str p.Name, .int .i64 p.Kind, .sl 109 (List.map R109 p.Parts), .int .i64 p.First, .int .i64 p.Every, .int .i64 p.Times, .int .i64 p.Step, .sl 9 (List.map R9 p.Names)] 0), (3, .own 0 out2.length), (4, .ptr 1 1 0 0)], [some ⟨3, List.map R3 out2⟩, some ⟨3, [[.int .i64 f]]⟩]⟩) _ hl1 (Ent.sel [none, some 0] (sd 1 rfl rfl <| sr 3 rfl (.row rfl) <| sr 4 rfl (.ptr _ _ _ rfl) <| sn) (.row 3 <| .cons rfl (ro1 (by exact tZ_3.symm) (rld rfl)) <| .nil) rfl rfl) (fun n1 s1 h => ?_)
  obtain ⟨out2, f⟩ := s1
  replace h := t2i h
  refine t2T ?_
  unfold layout_starts_L1 at h
  refine T_seq ?_
  refine T_seq (T_reg ?_)
  refine R_q _ rfl (v_loadS (ov rfl) rfl rfl rfl tS3 rfl) ?_
  refine R_q _ rfl (v_lss (ov rfl) (ov rfl)) ?_
  refine R_nil ?_
  refine T_keep (kc 1 rfl <| kc 3 rfl <| kc 4 rfl <| kc 8 rfl <| kn) rfl ?_
  refine T_if h rfl (fun b8 h => ?_) (fun b8 h => ?_)
  ·
   refine T_skip ?_
   refine T_joinG id (t1 fun out3 => ⟨[(1, .rp [.str p.Name, .int .i64 p.Kind, .sl 109 (List.map R109 p.Parts), .int .i64 p.First, .int .i64 p.Every, .int .i64 p.Times, .int .i64 p.Step, .sl 9 (List.map R9 p.Names)] 0), (3, .own 0 out3.length), (4, .rp [.int .i64 f] 0)], [some ⟨3, List.map R3 out3⟩]⟩) h (fun h => ?_) (fun j h => ?_)
   ·
    refine T_block ?_
    refine T_keep (kc 1 rfl <| kc 3 rfl <| kc 4 rfl <| kn) rfl ?_
    refine T_seq (T_reg ?_)
    refine R_q _ rfl (v_fieldR (ov rfl) tF43_2) ?_
    refine R_q _ rfl (v_loadS_r (ov rfl) tS40 rfl) ?_
    refine R_ent (Ent.sel [some 0, none] (sd 1 rfl rfl <| sr 3 rfl (.own (r' := 0) _ rfl) <| sr 4 rfl (.frp ⟨rfl, ⟨_, rfl⟩, rfl, rfl⟩) <| sd 13 rfl rfl <| sd 14 rfl rfl <| sn) (.cons rfl (roM D3) <| .row 3 <| .nil) rfl rfl) ?_
    refine R_q _ rfl (v_makeFunc (.cons (ov rfl) <| .nil)) ?_
    obtain ⟨y, h_y, h⟩ := bnd h
    refine R_q _ rfl (v_call (ok_slices_ContainsFunc_api_Part_api_Part rfl (fun z0 _ hz => ok_layout_starts_1 hz) h_y) (.cons (ov rfl) (.b rfl) <| .cons (ov rfl) (.fnC (.cons (.b rfl) <| .nil)) <| .nil)) ?_
    refine R_q _ rfl (v_not (ov rfl)) ?_
    refine R_nil ?_
    refine T_keep (kc 1 rfl <| kc 3 rfl <| kc 4 rfl <| kc 17 rfl <| kn) rfl ?_
    refine T_if h rfl (fun b17 h => ?_) (fun b17 h => ?_)
    ·
     refine T_keep (kc 1 rfl <| kc 3 rfl <| kc 4 rfl <| kn) rfl ?_
     refine T_reg ?_
     refine R_q _ rfl (v_move (ov rfl)) ?_
     refine R_q _ rfl (v_loadS_r (ov rfl) tS3 rfl) ?_
     refine R_q (.sl 3 (List.map R3 ([f] : List Int))) rfl (v_lit tL25 (.cons (cvs (ov rfl) (cell1_b rfl)) rfl (.cons (.b rfl) .nil) <| .nil) rfl rfl) ?_
     obtain ⟨l, h_l, h⟩ := bnd h
     refine R_w _ _ rfl (w_appendG (ov rfl) (slv_sl (ov rfl) tZ_3) tL25 rfl rfl rfl (fun _ => cell1_all rfl) rfl h_l) ?_
     refine R_q _ rfl (v_assign (ov rfl)) ?_
     refine R_nil ?_
     exact ⟨l, h, Ent.sel [some 0] (sd 1 rfl rfl <| sr 3 rfl (.own _ rfl) <| sd 4 rfl rfl <| sn) (.cons rfl (roM D3) <| .nil) rfl rfl⟩
    ·
     refine T_skip ?_
     exact ⟨out2, h, Ent.sel [some 0] (sd 1 rfl rfl <| sr 3 rfl (.own _ rfl) <| sd 4 rfl rfl <| sn) (.cons rfl (roM D3) <| .nil) rfl rfl⟩
   ·
    obtain ⟨out3, rfl⟩ : ∃ x, x = j := ⟨_, rfl⟩
    replace h := t1i h
    refine t1T ?_
    refine T_seq ?_
    refine T_seq (T_reg ?_)
    refine R_q _ rfl (v_loadS_r (ov rfl) tS3 rfl) ?_
    refine R_nil ?_
    refine T_reg ?_
    refine R_w _ _ rfl (w_alloc (row := [_]) 1 rfl tZ3 rfl tZ_3) ?_
    refine R_w _ _ rfl (w_store (ov rfl) (ov rfl) (cells_scal tS3) rfl rfl rfl (Nat.le_of_ble_eq_true rfl) (cell1_all rfl) rfl) ?_
    refine R_nil ?_
    refine T_keep (kc 1 rfl <| kc 3 rfl <| kc 4 rfl <| kn) rfl ?_
    refine T_reg ?_
    refine R_q _ rfl (v_loadS (ov rfl) rfl rfl rfl tS3 rfl) ?_
    refine R_q _ rfl (v_fieldR (ov rfl) tF43_4) ?_
    refine R_q _ rfl (v_loadS_r (ov rfl) tS3 rfl) ?_
    refine R_q _ rfl (v_add (ov rfl) (ov rfl) rfl) ?_
    refine R_w _ _ rfl (w_store (ov rfl) (ov rfl) (cells_scal tS3) rfl rfl rfl (Nat.le_of_ble_eq_true rfl) (cell1_all rfl) rfl) ?_
    refine R_nil ?_
    exact ⟨(out3, (i64 (f + p.Every))), h, Ent.sel [some 0, some 1] (sd 1 rfl rfl <| sr 3 rfl (.own _ rfl) <| sr 4 rfl (.ptr _ _ _ rfl) <| sn) (.cons rfl (roM D3) <| .cons rfl (ro1 (by exact tZ_3.symm) (rld rfl)) <| .nil) rfl rfl⟩
  ·
   refine T_exit ?_
   rw [lx h] at ho1
   replace h := ho1
   exact ⟨out2, h, Ent.sel [some 0] (sr 3 rfl (.own _ rfl) <| sn) (.cons rfl (roM D3) <| .nil) rfl rfl⟩
 ·
  obtain ⟨out, rfl⟩ : ∃ x, x = j := ⟨_, rfl⟩
  replace h := t1i h
  refine t1T ?_
  refine T_seq (T_reg ?_)
  refine R_q _ rfl (v_move (ov rfl)) ?_
  refine R_q _ rfl (v_assign (ov rfl)) ?_
  refine R_nil ?_
  obtain rfl := rt (v := out) h
  refine T_ret (retq ?_ (.one (.tmp rfl (View.ownM rfl rfl D3))))
  rfl

theorem ok_layout_placeOf {p : api_Param} {x : api_Part} {f : Int} {j : Int} {r : api_Place} (h : layout_placeOf p x f j = some r) :
  CSpec Try.prog gl0 125 [.agg [.str p.Name, .int .i64 p.Kind, .sl 109 (List.map R109 p.Parts), .int .i64 p.First, .int .i64 p.Every, .int .i64 p.Times, .int .i64 p.Step, .sl 9 (List.map R9 p.Names)], .agg [.int .i64 x.Frame, .int .i64 x.Word, .int .i64 x.Low, .int .i64 x.Bits], .int .i64 f, .int .i64 j] (.agg [.int .i64 r.Frame, .int .i64 r.Word, .int .i64 r.Low, .int .i64 r.Bits]) := by
 unfold layout_placeOf at h
 replace h := bnd0 h
 refine spec_of (by kernel_rfl) Try.func125 rfl rfl ?_
 intro w0 A
 refine T_seq (T_reg ?_)
 refine R_q _ rfl (v_boxD (cva (ov rfl)) rfl tZ_43 rfl) ?_
 refine R_q _ rfl (v_boxD (cva (ov rfl)) rfl tZ_109 rfl) ?_
 refine R_w _ _ rfl (w_alloc (row := [_, _, _, _]) 0 rfl tZ66 rfl tZ_66) ?_
 refine R_nil ?_
 refine T_keep (kc 2 rfl <| kc 3 rfl <| kc 4 rfl <| kc 5 rfl <| kc 8 rfl <| kn) rfl ?_
 refine T_seq (T_reg ?_)
 refine R_q _ rfl (v_move (ov rfl)) ?_
 refine R_q _ rfl (v_fieldR (ov rfl) tF109_0) ?_
 refine R_q _ rfl (v_loadS_r (ov rfl) tS3 rfl) ?_
 refine R_q _ rfl (v_add (ov rfl) (ov rfl) rfl) ?_
 refine R_q _ rfl (v_fieldR (ov rfl) tF109_1) ?_
 refine R_q _ rfl (v_loadS_r (ov rfl) tS3 rfl) ?_
 refine R_q _ rfl (v_move (ov rfl)) ?_
 refine R_q _ rfl (v_fieldR (ov rfl) tF43_6) ?_
 refine R_q _ rfl (v_loadS_r (ov rfl) tS3 rfl) ?_
 refine R_q _ rfl (v_mul (ov rfl) (ov rfl) rfl) ?_
 refine R_q _ rfl (v_add (ov rfl) (ov rfl) rfl) ?_
 refine R_q _ rfl (v_fieldR (ov rfl) tF109_2) ?_
 refine R_q _ rfl (v_loadS_r (ov rfl) tS3 rfl) ?_
 refine R_q _ rfl (v_fieldR (ov rfl) tF109_3) ?_
 refine R_q _ rfl (v_loadS_r (ov rfl) tS3 rfl) ?_
 refine R_q _ rfl (v_build (ys := [_, _, _, _]) tPL66 tHA66 tZ66 (.cons (cvs (ov rfl) (cell1_b rfl)) <| .cons (cvs (ov rfl) (cell1_b rfl)) <| .cons (cvs (ov rfl) (cell1_b rfl)) <| .cons (cvs (ov rfl) (cell1_b rfl)) <| .nil) rfl) ?_
 refine R_w _ _ rfl (w_store (ov rfl) (ov rfl) (cells_agg tA66 rfl) rfl rfl rfl (Nat.le_of_ble_eq_true rfl) (cell1_all rfl) rfl) ?_
 refine R_nil ?_
 obtain rfl := rt (v := (api_Place.mk (i64 (f + x.Frame)) (i64 (x.Word + (i64 (j * p.Step)))) x.Low x.Bits)) h
 refine T_ret (retq ?_ (.one (.agg rfl rfl rfl rfl tA66 rfl rfl (pwB rfl))))
 rfl

theorem ok_layout_cellsOf {number : Int} {p : api_Param} {r : (List api_Cell)} (h : layout_cellsOf number p = some r) :
  CSpec Try.prog gl0 83 [.int .i64 number, .agg [.str p.Name, .int .i64 p.Kind, .sl 109 (List.map R109 p.Parts), .int .i64 p.First, .int .i64 p.Every, .int .i64 p.Times, .int .i64 p.Step, .sl 9 (List.map R9 p.Names)]] (.sl 54 (List.map R54 r)) := by
 unfold layout_cellsOf at h
 replace h := bnd0 h
 refine spec_of (by kernel_rfl) Try.func83 rfl rfl ?_
 intro w0 A
 refine T_seq (T_reg ?_)
 refine R_q _ rfl (v_boxD (cva (ov rfl)) rfl tZ_43 rfl) ?_
 refine R_q _ rfl (v_assign (ov rfl)) ?_
 refine R_nil ?_
 refine T_keep (kc 0 rfl <| kc 3 rfl <| kn) rfl ?_
 refine T_seq (T_reg ?_)
 refine R_q _ rfl (v_assign (ov rfl)) ?_
 refine R_nil ?_
 refine T_joinG id (t1 fun out => ⟨[(5, .own 0 out.length)], [some ⟨54, List.map R54 out⟩]⟩) h (fun h => ?_) (fun j h => ?_)
 ·
  refine T_seq (T_reg ?_)
  refine R_q _ rfl (v_loadA_r (ov rfl) tA43 rfl rfl) ?_
  obtain ⟨y, h_y, h⟩ := bnd h
  refine R_q _ rfl (v_call (ok_layout_starts h_y) (.cons (ov rfl) (.aggB rfl) <| .nil)) ?_
  refine R_q _ rfl (v_len (slv_sl (ov rfl) tZ_3) tL25 (len_map _ _)) ?_
  refine R_q _ rfl (v_move (ov rfl)) ?_
  refine R_nil ?_
  refine T_block ?_
  obtain ⟨r1, hl1, ho1⟩ := bndL h
  refine T_loopG _ (t2 fun out2 i => ⟨[(0, .int .i64 number), (3, .rp [.str p.Name, .int .i64 p.Kind, .sl 109 (List.map R109 p.Parts), .int .i64 p.First, .int .i64 p.Every, .int .i64 p.Times, .int .i64 p.Step, .sl 9 (List.map R9 p.Names)] 0), (5, .own 0 out2.length), (13, .sl 3 (List.map R3 y)), (14, .int .i64 (y.length : Int)), (15, .int .i64 i)], [some ⟨54, List.map R54 out2⟩]⟩) _ hl1 (Ent.sel [none] (sd 0 rfl rfl <| sd 3 rfl rfl <| sr 5 rfl (.row rfl) <| sd 13 rfl rfl <| sd 14 rfl rfl <| sd 15 rfl rfl <| sn) (.row 54 <| .nil) rfl rfl) (fun n1 s1 h => ?_)
  obtain ⟨out2, i⟩ := s1
  replace h := t2i h
  refine t2T ?_
  unfold layout_cellsOf_L1 at h
  refine T_seq (T_reg ?_)
  refine R_q _ rfl (v_lss (ov rfl) (ov rfl)) ?_
  refine R_nil ?_
  refine T_seq ?_
  refine T_if h rfl (fun b16 h => ?_) (fun b16 h => ?_)
  ·
   refine T_skip ?_
   refine T_joinG id (t1 fun out3 => ⟨[(0, .int .i64 number), (3, .rp [.str p.Name, .int .i64 p.Kind, .sl 109 (List.map R109 p.Parts), .int .i64 p.First, .int .i64 p.Every, .int .i64 p.Times, .int .i64 p.Step, .sl 9 (List.map R9 p.Names)] 0), (5, .own 0 out3.length), (13, .sl 3 (List.map R3 y)), (14, .int .i64 (y.length : Int)), (15, .int .i64 i)], [some ⟨54, List.map R54 out3⟩]⟩) h (fun h => ?_) (fun j h => ?_)
   ·
    refine T_block ?_
    refine T_keep (kc 0 rfl <| kc 3 rfl <| kc 5 rfl <| kc 13 rfl <| kc 14 rfl <| kc 15 rfl <| kn) rfl ?_
    refine T_seq (T_reg ?_)
    obtain ⟨x, h_x, h⟩ := bnd h
    refine R_q _ rfl (v_ixSG (ov rfl) (ov rfl) tL25 h_x) ?_
    refine R_q _ rfl (v_loadS_r (ov rfl) tS3 rfl) ?_
    refine R_q _ rfl (v_assign (ov rfl)) ?_
    refine R_nil ?_
    refine T_keep (kc 0 rfl <| kc 3 rfl <| kc 5 rfl <| kc 7 rfl <| kc 13 rfl <| kc 14 rfl <| kc 15 rfl <| kn) rfl ?_
    refine T_seq (T_reg ?_)
    refine R_q _ rfl (v_fieldR (ov rfl) tF43_5) ?_
    refine R_q _ rfl (v_loadS_r (ov rfl) tS3 rfl) ?_
    refine R_q _ rfl (v_move (ov rfl)) ?_
    refine R_nil ?_
    refine T_block ?_
    obtain ⟨r2, hl2, ho2⟩ := bndL h
    refine T_loopG _ (t2 fun out4 i2 => ⟨[(0, .int .i64 number), (3, .rp [.str p.Name, .int .i64 p.Kind, .sl 109 (List.map R109 p.Parts), .int .i64 p.First, .int .i64 p.Every, .int .i64 p.Times, .int .i64 p.Step, .sl 9 (List.map R9 p.Names)] 0), (5, .own 0 out4.length), (7, .int .i64 x), (13, .sl 3 (List.map R3 y)), (14, .int .i64 (y.length : Int)), (15, .int .i64 i), (20, .int .i64 p.Times), (21, .int .i64 i2)], [some ⟨54, List.map R54 out4⟩]⟩) _ hl2 (Ent.sel [some 0] (sd 0 rfl rfl <| sd 3 rfl rfl <| sr 5 rfl (.own _ rfl) <| sd 7 rfl rfl <| sd 13 rfl rfl <| sd 14 rfl rfl <| sd 15 rfl rfl <| sd 20 rfl rfl <| sd 21 rfl rfl <| sn) (.cons rfl (roM D54) <| .nil) rfl rfl) (fun n2 s2 h => ?_)
    obtain ⟨out4, i2⟩ := s2
    replace h := t2i h
    refine t2T ?_
    unfold layout_cellsOf_L2 at h
    refine T_seq (T_reg ?_)
    refine R_q _ rfl (v_lss (ov rfl) (ov rfl)) ?_
    refine R_nil ?_
    refine T_seq ?_
    refine T_if h rfl (fun b22 h => ?_) (fun b22 h => ?_)
    ·
     refine T_skip ?_
     refine T_seq ?_
     refine T_block ?_
     refine T_keep (kc 0 rfl <| kc 3 rfl <| kc 5 rfl <| kc 7 rfl <| kc 13 rfl <| kc 14 rfl <| kc 15 rfl <| kc 20 rfl <| kc 21 rfl <| kn) rfl ?_
     refine T_seq (T_reg ?_)
     refine R_q _ rfl (v_move (ov rfl)) ?_
     refine R_q _ rfl (v_assign (ov rfl)) ?_
     refine R_nil ?_
     refine T_keep (kc 0 rfl <| kc 3 rfl <| kc 5 rfl <| kc 7 rfl <| kc 8 rfl <| kc 13 rfl <| kc 14 rfl <| kc 15 rfl <| kc 20 rfl <| kc 21 rfl <| kn) rfl ?_
     refine T_seq (T_reg ?_)
     refine R_q _ rfl (v_move (ov rfl)) ?_
     refine R_q _ rfl (v_move (ov rfl)) ?_
     refine R_q _ rfl (v_lenO (ov rfl) rfl rfl tL62) ?_
     refine R_q _ rfl (v_move (ov rfl)) ?_
     refine R_q _ rfl (v_build (ys := [_, _, _, _]) tPL54 tHA54 tZ54 (.cons (cvs (ov rfl) (cell1_b rfl)) <| .cons (cvs (ov rfl) (cell1_b rfl)) <| .cons (cvs (ov rfl) (cell1_b rfl)) <| .nil) rfl) ?_
     refine R_w _ _ rfl (w_alloc (row := [_, _, _, _]) 1 rfl tZ54 rfl tZ_54) ?_
     refine R_w _ _ rfl (w_store (ov rfl) (ov rfl) (cells_agg tA54 rfl) rfl rfl rfl (Nat.le_of_ble_eq_true rfl) (cell1_all rfl) rfl) ?_
     refine R_nil ?_
     refine T_joinG id (t1 fun Places => ⟨[(0, .int .i64 number), (3, .rp [.str p.Name, .int .i64 p.Kind, .sl 109 (List.map R109 p.Parts), .int .i64 p.First, .int .i64 p.Every, .int .i64 p.Times, .int .i64 p.Step, .sl 9 (List.map R9 p.Names)] 0), (5, .own 0 out4.length), (7, .int .i64 x), (9, .ptr 1 1 0 0), (13, .sl 3 (List.map R3 y)), (14, .int .i64 (y.length : Int)), (15, .int .i64 i), (20, .int .i64 p.Times), (21, .int .i64 i2)], [some ⟨54, List.map R54 out4⟩, some ⟨54, [[.int .i64 number, .int .i64 (out4.length : Int), .int .i64 x, .own 2 Places.length]]⟩, some ⟨66, List.map R66 Places⟩]⟩) h (fun h => ?_) (fun j h => ?_)
     ·
      refine T_keep (kc 0 rfl <| kc 3 rfl <| kc 5 rfl <| kc 7 rfl <| kc 8 rfl <| kc 9 rfl <| kc 13 rfl <| kc 14 rfl <| kc 15 rfl <| kc 20 rfl <| kc 21 rfl <| kn) rfl ?_
      refine T_seq (T_reg ?_)
      refine R_q _ rfl (v_fieldR (ov rfl) tF43_2) ?_
      refine R_q _ rfl (v_loadS_r (ov rfl) tS40 rfl) ?_
      refine R_q _ rfl (v_len (slv_sl (ov rfl) tZ_109) tL40 (len_map _ _)) ?_
      refine R_q _ rfl (v_move (ov rfl)) ?_
      refine R_nil ?_
      refine T_block ?_
      obtain ⟨r3, hl3, ho3⟩ := bndL h
      refine T_loopG _ (t2 fun Places2 i3 => ⟨[(0, .int .i64 number), (3, .rp [.str p.Name, .int .i64 p.Kind, .sl 109 (List.map R109 p.Parts), .int .i64 p.First, .int .i64 p.Every, .int .i64 p.Times, .int .i64 p.Step, .sl 9 (List.map R9 p.Names)] 0), (5, .own 0 out4.length), (7, .int .i64 x), (8, .int .i64 i2), (9, .ptr 1 1 0 0), (13, .sl 3 (List.map R3 y)), (14, .int .i64 (y.length : Int)), (15, .int .i64 i), (20, .int .i64 p.Times), (21, .int .i64 i2), (30, .sl 109 (List.map R109 p.Parts)), (31, .int .i64 (p.Parts.length : Int)), (32, .int .i64 i3)], [some ⟨54, List.map R54 out4⟩, some ⟨54, [[.int .i64 number, .int .i64 (out4.length : Int), .int .i64 x, .own 2 Places2.length]]⟩, some ⟨66, List.map R66 Places2⟩]⟩) _ hl3 (Ent.sel [some 0, some 1, none] (sd 0 rfl rfl <| sd 3 rfl rfl <| sr 5 rfl (.own _ rfl) <| sd 7 rfl rfl <| sd 8 rfl rfl <| sr 9 rfl (.ptr _ _ _ rfl) <| sd 13 rfl rfl <| sd 14 rfl rfl <| sd 15 rfl rfl <| sd 20 rfl rfl <| sd 21 rfl rfl <| sd 30 rfl rfl <| sd 31 rfl rfl <| sd 32 rfl rfl <| sn) (.cons rfl (roM D54) <| .cons rfl (ro1 (by exact tZ_54.symm) (rlc (.dat rfl) <| rlc (.dat rfl) <| rlc (.dat rfl) <| rlc (.row rfl) <| rln)) <| .row 66 <| .nil) rfl rfl) (fun n3 s3 h => ?_)
      obtain ⟨Places2, i3⟩ := s3
      replace h := t2i h
      refine t2T ?_
      unfold layout_cellsOf_L3 at h
      refine T_seq (T_reg ?_)
      refine R_q _ rfl (v_lss (ov rfl) (ov rfl)) ?_
      refine R_nil ?_
      refine T_seq ?_
      refine T_if h rfl (fun b33 h => ?_) (fun b33 h => ?_)
      ·
       refine T_skip ?_
       refine T_seq ?_
       refine T_block ?_
       refine T_keep (kc 0 rfl <| kc 3 rfl <| kc 5 rfl <| kc 7 rfl <| kc 8 rfl <| kc 9 rfl <| kc 13 rfl <| kc 14 rfl <| kc 15 rfl <| kc 20 rfl <| kc 21 rfl <| kc 30 rfl <| kc 31 rfl <| kc 32 rfl <| kn) rfl ?_
       refine T_seq (T_reg ?_)
       obtain ⟨x2, h_x2, h⟩ := bnd h
       refine R_q _ rfl (v_ixSG (ov rfl) (ov rfl) tL40 h_x2) ?_
       refine R_q _ rfl (v_loadA_r (ov rfl) tA109 rfl rfl) ?_
       refine R_w _ _ rfl (w_alloc (row := [_, _, _, _]) 3 rfl tZ109 rfl tZ_109) ?_
       refine R_w _ _ rfl (w_store (ov rfl) (ov rfl) (cells_agg tA109 rfl) rfl rfl rfl (Nat.le_of_ble_eq_true rfl) (cell1_all rfl) rfl) ?_
       refine R_nil ?_
       refine T_keep (kc 0 rfl <| kc 3 rfl <| kc 5 rfl <| kc 7 rfl <| kc 8 rfl <| kc 9 rfl <| kc 11 rfl <| kc 13 rfl <| kc 14 rfl <| kc 15 rfl <| kc 20 rfl <| kc 21 rfl <| kc 30 rfl <| kc 31 rfl <| kc 32 rfl <| kn) rfl ?_
       refine T_draw (cw := md0) (by kernel_rfl) ?_
       refine D_q0 0 _ rfl (by kernel_rfl) rfl rfl (v_fieldP (ov rfl) rfl rfl tF54_3) ?_
       refine D_q0 1 _ rfl (by kernel_rfl) rfl rfl (v_loadS (ov rfl) rfl rfl rfl tS52 rfl) ?_
       refine D_q0 2 _ rfl (by kernel_rfl) rfl rfl (v_loadA_r (ov rfl) tA43 rfl rfl) ?_
       refine D_q0 3 _ rfl (by kernel_rfl) rfl rfl (v_loadA (ov rfl) rfl rfl rfl tA109 rfl rfl) ?_
       refine D_q0 4 _ rfl (by kernel_rfl) rfl rfl (v_move (ov rfl)) ?_
       refine D_q0 5 _ rfl (by kernel_rfl) rfl rfl (v_move (ov rfl)) ?_
       obtain ⟨y2, h_y2, h⟩ := bnd h
       refine D_q0 6 _ rfl (by kernel_rfl) rfl rfl (v_call (ok_layout_placeOf h_y2) (.cons (ov rfl) (.aggB rfl) <| .cons (ov rfl) (.aggB rfl) <| .cons (ov rfl) (.b rfl) <| .cons (ov rfl) (.b rfl) <| .nil)) ?_
       refine D_q0 7 (.sl 66 (List.map R66 ([y2] : List api_Place))) rfl (by kernel_rfl) rfl rfl (v_lit tL52 (.cons (cva (ov rfl)) rfl (pwD rfl) <| .nil) rfl rfl) ?_
       obtain ⟨l, h_l, h⟩ := bnd h
       refine D_one 8 _ _ rfl (by kernel_rfl) rfl rfl (fun h => by cases h) (fun h => by cases h) (w_appendG (ov rfl) (slv_sl (ov rfl) tZ_66) tL52 rfl rfl rfl (fun _ => cell1_all rfl) rfl h_l) ?_
       refine D_q0 9 _ rfl (by kernel_rfl) rfl rfl (v_fieldP (ov rfl) rfl rfl tF54_3) ?_
       refine D_one 10 _ _ rfl (by kernel_rfl) rfl rfl (fun h => by cases h) (fun h => by cases h) (w_store (ov rfl) (ov rfl) (cells_scal tS52) rfl rfl rfl (Nat.le_of_ble_eq_true rfl) (cell1_all rfl) rfl) ?_
       refine D_done (by kernel_rfl) ?_
       refine T_keep (kc 0 rfl <| kc 3 rfl <| kc 5 rfl <| kc 7 rfl <| kc 8 rfl <| kc 9 rfl <| kc 13 rfl <| kc 14 rfl <| kc 15 rfl <| kc 20 rfl <| kc 21 rfl <| kc 30 rfl <| kc 31 rfl <| kc 32 rfl <| kn) rfl ?_
       refine T_reg ?_
       refine R_q _ rfl (v_add (ov rfl) (ov rfl) rfl) ?_
       refine R_q _ rfl (v_move (ov rfl)) ?_
       refine R_nil ?_
       exact ⟨(l, (i64 (i3 + 1))), h, Ent.sel [some 0, some 1, some 2] (sd 0 rfl rfl <| sd 3 rfl rfl <| sr 5 rfl (.own _ rfl) <| sd 7 rfl rfl <| sd 8 rfl rfl <| sr 9 rfl (.ptr _ _ _ rfl) <| sd 13 rfl rfl <| sd 14 rfl rfl <| sd 15 rfl rfl <| sd 20 rfl rfl <| sd 21 rfl rfl <| sd 30 rfl rfl <| sd 31 rfl rfl <| sd 32 rfl rfl <| sn) (.cons rfl (roM D54) <| .cons rfl (ro1 (by exact tZ_54.symm) (rlc (.dat rfl) <| rlc (.dat rfl) <| rlc (.dat rfl) <| rlc (.own _ rfl) <| rln)) <| .cons rfl (roM D66) <| .nil) rfl rfl⟩
      ·
       refine T_exit ?_
       rw [lx h] at ho3
       replace h := ho3
       exact ⟨Places2, h, Ent.sel [some 0, some 1, some 2] (sd 0 rfl rfl <| sd 3 rfl rfl <| sr 5 rfl (.own _ rfl) <| sd 7 rfl rfl <| sr 9 rfl (.ptr _ _ _ rfl) <| sd 13 rfl rfl <| sd 14 rfl rfl <| sd 15 rfl rfl <| sd 20 rfl rfl <| sd 21 rfl rfl <| sn) (.cons rfl (roM D54) <| .cons rfl (ro1 (by exact tZ_54.symm) (rlc (.dat rfl) <| rlc (.dat rfl) <| rlc (.dat rfl) <| rlc (.own _ rfl) <| rln)) <| .cons rfl (roM D66) <| .nil) rfl rfl⟩
     ·
      obtain ⟨Places, rfl⟩ : ∃ x, x = j := ⟨_, rfl⟩
      replace h := t1i h
      refine t1T ?_
      refine T_reg ?_
      refine R_q _ rfl (v_move (ov rfl)) ?_
      refine R_q _ rfl (v_loadA (ov rfl) rfl rfl rfl tA54 rfl rfl) ?_
      refine R_ent (Ent.sel [some 0, some 1, none] (sd 0 rfl rfl <| sd 3 rfl rfl <| sr 5 rfl (.own (r' := 0) _ rfl) <| sd 7 rfl rfl <| sr 9 rfl (.ptr (r' := 1) _ _ _ rfl) <| sd 13 rfl rfl <| sd 14 rfl rfl <| sd 15 rfl rfl <| sd 20 rfl rfl <| sd 21 rfl rfl <| sr 47 rfl (.own (r' := 0) _ rfl) <| sr 48 rfl (rAgg (rlc (.dat rfl) <| rlc (.dat rfl) <| rlc (.dat rfl) <| rlc (frzM rfl rfl rfl D66) <| rln)) <| sn) (.cons rfl (roM D54) <| .cons rfl (ro1 (by exact tZ_54.symm) (rlc (.dat rfl) <| rlc (.dat rfl) <| rlc (.dat rfl) <| rlc (frzM rfl rfl rfl D66) <| rln)) <| .row 66 <| .nil) rfl rfl) ?_
      refine R_q (.sl 54 (List.map R54 ([(api_Cell.mk number (out4.length : Int) x Places)] : List api_Cell))) rfl (v_lit tL62 (.cons (cva (ov rfl)) rfl (pwD rfl) <| .nil) rfl rfl) ?_
      obtain ⟨l2, h_l2, h⟩ := bnd h
      refine R_w _ _ rfl (w_appendG (ov rfl) (slv_sl (ov rfl) tZ_54) tL62 rfl rfl rfl (fun _ => cell1_all rfl) rfl h_l2) ?_
      refine R_q _ rfl (v_assign (ov rfl)) ?_
      refine R_nil ?_
      refine T_keep (kc 0 rfl <| kc 3 rfl <| kc 5 rfl <| kc 7 rfl <| kc 13 rfl <| kc 14 rfl <| kc 15 rfl <| kc 20 rfl <| kc 21 rfl <| kn) rfl ?_
      refine T_reg ?_
      refine R_q _ rfl (v_add (ov rfl) (ov rfl) rfl) ?_
      refine R_q _ rfl (v_move (ov rfl)) ?_
      refine R_nil ?_
      exact ⟨(l2, (i64 (i2 + 1))), h, Ent.sel [some 0] (sd 0 rfl rfl <| sd 3 rfl rfl <| sr 5 rfl (.own _ rfl) <| sd 7 rfl rfl <| sd 13 rfl rfl <| sd 14 rfl rfl <| sd 15 rfl rfl <| sd 20 rfl rfl <| sd 21 rfl rfl <| sn) (.cons rfl (roM D54) <| .nil) rfl rfl⟩
    ·
     refine T_exit ?_
     rw [lx h] at ho2
     replace h := ho2
     exact ⟨out4, h, Ent.sel [some 0] (sd 0 rfl rfl <| sd 3 rfl rfl <| sr 5 rfl (.own _ rfl) <| sd 13 rfl rfl <| sd 14 rfl rfl <| sd 15 rfl rfl <| sn) (.cons rfl (roM D54) <| .nil) rfl rfl⟩
   ·
    obtain ⟨out3, rfl⟩ : ∃ x, x = j := ⟨_, rfl⟩
    replace h := t1i h
    refine t1T ?_
    refine T_reg ?_
    refine R_q _ rfl (v_add (ov rfl) (ov rfl) rfl) ?_
    refine R_q _ rfl (v_move (ov rfl)) ?_
    refine R_nil ?_
    exact ⟨(out3, (i64 (i + 1))), h, Ent.sel [some 0] (sd 0 rfl rfl <| sd 3 rfl rfl <| sr 5 rfl (.own _ rfl) <| sd 13 rfl rfl <| sd 14 rfl rfl <| sd 15 rfl rfl <| sn) (.cons rfl (roM D54) <| .nil) rfl rfl⟩
  ·
   refine T_exit ?_
   rw [lx h] at ho1
   replace h := ho1
   exact ⟨out2, h, Ent.sel [some 0] (sr 5 rfl (.own _ rfl) <| sn) (.cons rfl (roM D54) <| .nil) rfl rfl⟩
 ·
  obtain ⟨out, rfl⟩ : ∃ x, x = j := ⟨_, rfl⟩
  replace h := t1i h
  refine t1T ?_
  refine T_seq (T_reg ?_)
  refine R_q _ rfl (v_move (ov rfl)) ?_
  refine R_q _ rfl (v_assign (ov rfl)) ?_
  refine R_nil ?_
  obtain rfl := rt (v := out) h
  refine T_ret (retq ?_ (.one (.tmp rfl (View.ownM rfl rfl D54))))
  rfl

theorem ok_layout_bitsAt {x : api_Place} {r : (List layout_bit)} (h : layout_bitsAt x = some r) :
  CSpec Try.prog gl0 126 [.agg [.int .i64 x.Frame, .int .i64 x.Word, .int .i64 x.Low, .int .i64 x.Bits]] (.sl 122 (List.map R122 r)) := by
 unfold layout_bitsAt at h
 replace h := bnd0 h
 refine spec_of (by kernel_rfl) Try.func126 rfl rfl ?_
 intro w0 A
 refine T_seq (T_reg ?_)
 refine R_q _ rfl (v_boxD (cva (ov rfl)) rfl tZ_66 rfl) ?_
 refine R_q _ rfl (v_assign (ov rfl)) ?_
 refine R_nil ?_
 refine T_keep (kc 1 rfl <| kn) rfl ?_
 refine T_seq (T_reg ?_)
 refine R_q _ rfl (v_assign (ov rfl)) ?_
 refine R_nil ?_
 refine T_joinG id (t1 fun out => ⟨[(3, .own 0 out.length)], [some ⟨122, List.map R122 out⟩]⟩) h (fun h => ?_) (fun j h => ?_)
 ·
  refine T_seq (T_reg ?_)
  refine R_q _ rfl (v_fieldR (ov rfl) tF66_3) ?_
  refine R_q _ rfl (v_loadS_r (ov rfl) tS3 rfl) ?_
  refine R_q _ rfl (v_move (ov rfl)) ?_
  refine R_nil ?_
  refine T_block ?_
  obtain ⟨r1, hl1, ho1⟩ := bndL h
  refine T_loopG _ (t2 fun out2 i => ⟨[(1, .rp [.int .i64 x.Frame, .int .i64 x.Word, .int .i64 x.Low, .int .i64 x.Bits] 0), (3, .own 0 out2.length), (6, .int .i64 x.Bits), (7, .int .i64 i)], [some ⟨122, List.map R122 out2⟩]⟩) _ hl1 (Ent.sel [none] (sd 1 rfl rfl <| sr 3 rfl (.row rfl) <| sd 6 rfl rfl <| sd 7 rfl rfl <| sn) (.row 122 <| .nil) rfl rfl) (fun n1 s1 h => ?_)
  obtain ⟨out2, i⟩ := s1
  replace h := t2i h
  refine t2T ?_
  unfold layout_bitsAt_L1 at h
  refine T_seq (T_reg ?_)
  refine R_q _ rfl (v_lss (ov rfl) (ov rfl)) ?_
  refine R_nil ?_
  refine T_seq ?_
  refine T_if h rfl (fun b8 h => ?_) (fun b8 h => ?_)
  ·
   refine T_skip ?_
   refine T_seq ?_
   refine T_block ?_
   refine T_keep (kc 1 rfl <| kc 3 rfl <| kc 6 rfl <| kc 7 rfl <| kn) rfl ?_
   refine T_seq (T_reg ?_)
   refine R_q _ rfl (v_move (ov rfl)) ?_
   refine R_q _ rfl (v_assign (ov rfl)) ?_
   refine R_nil ?_
   refine T_keep (kc 1 rfl <| kc 3 rfl <| kc 4 rfl <| kc 6 rfl <| kc 7 rfl <| kn) rfl ?_
   refine T_reg ?_
   refine R_q _ rfl (v_move (ov rfl)) ?_
   refine R_q _ rfl (v_fieldR (ov rfl) tF66_0) ?_
   refine R_q _ rfl (v_loadS_r (ov rfl) tS3 rfl) ?_
   refine R_q _ rfl (v_fieldR (ov rfl) tF66_1) ?_
   refine R_q _ rfl (v_loadS_r (ov rfl) tS3 rfl) ?_
   refine R_q _ rfl (v_fieldR (ov rfl) tF66_2) ?_
   refine R_q _ rfl (v_loadS_r (ov rfl) tS3 rfl) ?_
   refine R_q _ rfl (v_move (ov rfl)) ?_
   refine R_q _ rfl (v_add (ov rfl) (ov rfl) rfl) ?_
   refine R_q _ rfl (v_build (ys := [_, _, _]) tPL122 tHA122 tZ122 (.cons (cvs (ov rfl) (cell1_b rfl)) <| .cons (cvs (ov rfl) (cell1_b rfl)) <| .cons (cvs (ov rfl) (cell1_b rfl)) <| .nil) rfl) ?_
   refine R_q (.sl 122 (List.map R122 ([(layout_bit.mk x.Frame x.Word (i64 (x.Low + i)))] : List layout_bit))) rfl (v_lit tL156 (.cons (cva (ov rfl)) rfl (pwD rfl) <| .nil) rfl rfl) ?_
   obtain ⟨l, h_l, h⟩ := bnd h
   refine R_w _ _ rfl (w_appendG (ov rfl) (slv_sl (ov rfl) tZ_122) tL156 rfl rfl rfl (fun _ => cell1_all rfl) rfl h_l) ?_
   refine R_q _ rfl (v_assign (ov rfl)) ?_
   refine R_nil ?_
   refine T_keep (kc 1 rfl <| kc 3 rfl <| kc 6 rfl <| kc 7 rfl <| kn) rfl ?_
   refine T_reg ?_
   refine R_q _ rfl (v_add (ov rfl) (ov rfl) rfl) ?_
   refine R_q _ rfl (v_move (ov rfl)) ?_
   refine R_nil ?_
   exact ⟨(l, (i64 (i + 1))), h, Ent.sel [some 0] (sd 1 rfl rfl <| sr 3 rfl (.own _ rfl) <| sd 6 rfl rfl <| sd 7 rfl rfl <| sn) (.cons rfl (roM D122) <| .nil) rfl rfl⟩
  ·
   refine T_exit ?_
   rw [lx h] at ho1
   replace h := ho1
   exact ⟨out2, h, Ent.sel [some 0] (sr 3 rfl (.own _ rfl) <| sn) (.cons rfl (roM D122) <| .nil) rfl rfl⟩
 ·
  obtain ⟨out, rfl⟩ : ∃ x, x = j := ⟨_, rfl⟩
  replace h := t1i h
  refine t1T ?_
  refine T_seq (T_reg ?_)
  refine R_q _ rfl (v_move (ov rfl)) ?_
  refine R_q _ rfl (v_assign (ov rfl)) ?_
  refine R_nil ?_
  obtain rfl := rt (v := out) h
  refine T_ret (retq ?_ (.one (.tmp rfl (View.ownM rfl rfl D122))))
  rfl

theorem ok_layout_take {taken : List (layout_bit × Int)} {owner : Int} {l : List api_Place} {r : Bool × (List (layout_bit × Int))} (h : layout_take taken owner l = some r) :
  GSpec Try.prog gl0 84 [.mref 0 1, .int .i64 owner, .sl 66 (List.map R66 l)] [some ⟨119, [[.mcon (List.map (mrow FK122 FV3) taken)]]⟩] (.bool r.1) [some ⟨119, [[.mcon (List.map (mrow FK122 FV3) r.2)]]⟩] := by
 unfold layout_take at h
 replace h := bnd0 h
 refine gspec_of (by kernel_rfl) Try.func84 rfl rfl ?_
 intro w0 A W φ0
 refine T_seq (T_reg ?_)
 refine R_q _ rfl (v_assign (ov rfl)) ?_
 refine R_nil ?_
 refine T_joinG (fun j => (.inr j)) (t1 fun o => ⟨[], [some ⟨119, [[.mcon (List.map (mrow FK122 FV3) o)]]⟩]⟩) h (fun h => ?_) (fun j h => ?_)
 ·
  refine T_keep (kc 0 rfl <| kc 1 rfl <| kc 2 rfl <| kn) rfl ?_
  refine T_seq (T_reg ?_)
  refine R_q _ rfl (v_move (ov rfl)) ?_
  refine R_q _ rfl (v_len (slv_sl (ov rfl) tZ_66) tL52 (len_map _ _)) ?_
  refine R_q _ rfl (v_move (ov rfl)) ?_
  refine R_nil ?_
  refine T_block ?_
  obtain ⟨r1, hl1, ho1⟩ := bndL h
  refine T_loopG _ (t2 fun o2 i => ⟨[(0, .mref 0 1), (1, .int .i64 owner), (13, .sl 66 (List.map R66 l)), (14, .int .i64 (l.length : Int)), (15, .int .i64 i)], [some ⟨119, [[.mcon (List.map (mrow FK122 FV3) o2)]]⟩]⟩) _ hl1 (Ent.sel [some 0] (sr 0 rfl (.mref _ rfl) <| sd 1 rfl rfl <| sd 13 rfl rfl <| sd 14 rfl rfl <| sd 15 rfl rfl <| sn) (.cons rfl (roMap (fk := FK122) (fv := FV3) (m := taken) tZ_119 (fun _ => rAgg (rld rfl)) (fun _ => .ren (.dat rfl))) <| .nil) rfl rfl) (fun n1 s1 h => ?_)
  obtain ⟨o2, i⟩ := s1
  replace h := t2i h
  refine t2T ?_
  unfold layout_take_L1 at h
  refine T_seq (T_reg ?_)
  refine R_q _ rfl (v_lss (ov rfl) (ov rfl)) ?_
  refine R_nil ?_
  refine T_seq ?_
  refine T_if h rfl (fun b16 h => ?_) (fun b16 h => ?_)
  ·
   refine T_skip ?_
   refine T_joinG (fun j => (.inr j)) (t1 fun o3 => ⟨[(0, .mref 0 1), (1, .int .i64 owner), (13, .sl 66 (List.map R66 l)), (14, .int .i64 (l.length : Int)), (15, .int .i64 i)], [some ⟨119, [[.mcon (List.map (mrow FK122 FV3) o3)]]⟩]⟩) h (fun h => ?_) (fun j h => ?_)
   ·
    refine T_block ?_
    refine T_keep (kc 0 rfl <| kc 1 rfl <| kc 13 rfl <| kc 14 rfl <| kc 15 rfl <| kn) rfl ?_
    refine T_seq (T_reg ?_)
    obtain ⟨x, h_x, h⟩ := bnd h
    refine R_q _ rfl (v_ixSG (ov rfl) (ov rfl) tL52 h_x) ?_
    refine R_q _ rfl (v_loadA_r (ov rfl) tA66 rfl rfl) ?_
    refine R_w _ _ rfl (w_alloc (row := [_, _, _, _]) 1 rfl tZ66 rfl tZ_66) ?_
    refine R_w _ _ rfl (w_store (ov rfl) (ov rfl) (cells_agg tA66 rfl) rfl rfl rfl (Nat.le_of_ble_eq_true rfl) (cell1_all rfl) rfl) ?_
    refine R_nil ?_
    refine T_keep (kc 0 rfl <| kc 1 rfl <| kc 8 rfl <| kc 13 rfl <| kc 14 rfl <| kc 15 rfl <| kn) rfl ?_
    refine T_seq (T_reg ?_)
    refine R_q _ rfl (v_loadA (ov rfl) rfl rfl rfl tA66 rfl rfl) ?_
    obtain ⟨y, h_y, h⟩ := bnd h
    refine R_q _ rfl (v_call (ok_layout_bitsAt h_y) (.cons (ov rfl) (.aggB rfl) <| .nil)) ?_
    refine R_q _ rfl (v_len (slv_sl (ov rfl) tZ_122) tL156 (len_map _ _)) ?_
    refine R_q _ rfl (v_move (ov rfl)) ?_
    refine R_nil ?_
    refine T_block ?_
    obtain ⟨r2, hl2, ho2⟩ := bndL h
    refine T_loopG _ (t2 fun o4 i2 => ⟨[(0, .mref 0 1), (1, .int .i64 owner), (13, .sl 66 (List.map R66 l)), (14, .int .i64 (l.length : Int)), (15, .int .i64 i), (20, .sl 122 (List.map R122 y)), (21, .int .i64 (y.length : Int)), (22, .int .i64 i2)], [some ⟨119, [[.mcon (List.map (mrow FK122 FV3) o4)]]⟩]⟩) _ hl2 (Ent.sel [some 0] (sr 0 rfl (.mref _ rfl) <| sd 1 rfl rfl <| sd 13 rfl rfl <| sd 14 rfl rfl <| sd 15 rfl rfl <| sd 20 rfl rfl <| sd 21 rfl rfl <| sd 22 rfl rfl <| sn) (.cons rfl (roMap (fk := FK122) (fv := FV3) (m := o2) tZ_119 (fun _ => rAgg (rld rfl)) (fun _ => .ren (.dat rfl))) <| .nil) rfl rfl) (fun n2 s2 h => ?_)
    obtain ⟨o4, i2⟩ := s2
    replace h := t2i h
    refine t2T ?_
    unfold layout_take_L2 at h
    refine T_seq (T_reg ?_)
    refine R_q _ rfl (v_lss (ov rfl) (ov rfl)) ?_
    refine R_nil ?_
    refine T_seq ?_
    refine T_if h rfl (fun b23 h => ?_) (fun b23 h => ?_)
    ·
     refine T_skip ?_
     refine T_seq ?_
     refine T_block ?_
     refine T_keep (kc 0 rfl <| kc 1 rfl <| kc 13 rfl <| kc 14 rfl <| kc 15 rfl <| kc 20 rfl <| kc 21 rfl <| kc 22 rfl <| kn) rfl ?_
     refine T_seq (T_reg ?_)
     obtain ⟨x2, h_x2, h⟩ := bnd h
     refine R_q _ rfl (v_ixSG (ov rfl) (ov rfl) tL156 h_x2) ?_
     refine R_q _ rfl (v_loadA_r (ov rfl) tA122 rfl rfl) ?_
     refine R_w _ _ rfl (w_alloc (row := [_, _, _]) 1 rfl tZ122 rfl tZ_122) ?_
     refine R_w _ _ rfl (w_store (ov rfl) (ov rfl) (cells_agg tA122 rfl) rfl rfl rfl (Nat.le_of_ble_eq_true rfl) (cell1_all rfl) rfl) ?_
     refine R_nil ?_
     refine T_seq ?_
     refine T_keep (kc 0 rfl <| kc 1 rfl <| kc 10 rfl <| kc 13 rfl <| kc 14 rfl <| kc 15 rfl <| kc 20 rfl <| kc 21 rfl <| kc 22 rfl <| kn) rfl ?_
     refine T_seq (T_reg ?_)
     refine R_q _ rfl (v_move (ov rfl)) ?_
     refine R_q _ rfl (v_loadA (ov rfl) rfl rfl rfl tA122 rfl rfl) ?_
     obtain ⟨o5, h_o5, h⟩ := bnd h
     refine R_q _ rfl (v_lk2 (m := o4) (fk := FK122) (fv := FV3) (k := x2) (z0 := 0) (ov rfl) (ov rfl) tMp119 tKO122 rfl (fun _ => .aggB rfl) (zero_scal tZV3 rfl) (fun _ _ => rfl) h_o5) ?_
     refine R_q _ rfl (v_move (ov rfl)) ?_
     refine R_q _ rfl (v_extract (ov rfl) rfl) ?_
     refine R_q _ rfl (v_extract (ov rfl) rfl) ?_
     refine R_q _ rfl (v_assign (ov rfl)) ?_
     refine R_q _ rfl (v_assign (ov rfl)) ?_
     refine R_nil ?_
     refine T_keep (kc 0 rfl <| kc 1 rfl <| kc 10 rfl <| kc 12 rfl <| kc 13 rfl <| kc 14 rfl <| kc 15 rfl <| kc 20 rfl <| kc 21 rfl <| kc 22 rfl <| kn) rfl ?_
     refine T_seq (T_reg ?_)
     refine R_q _ rfl (v_move (ov rfl)) ?_
     refine R_nil ?_
     refine T_keep (kc 0 rfl <| kc 1 rfl <| kc 10 rfl <| kc 13 rfl <| kc 14 rfl <| kc 15 rfl <| kc 20 rfl <| kc 21 rfl <| kc 22 rfl <| kc 32 rfl <| kn) rfl ?_
     refine T_if h rfl (fun b32 h => ?_) (fun b32 h => ?_)
     ·
      refine T_keep (kn) rfl ?_
      refine T_seq (T_reg ?_)
      refine R_q _ rfl (v_assign (ov rfl)) ?_
      refine R_nil ?_
      rw [lx h] at ho2
      replace h := ho2
      rw [lx h] at ho1
      replace h := ho1
      obtain rfl := rt (v := (false, o4)) h
      refine T_ret ?_
      exact retg [some 0] rfl (.cons (.tmp rfl) <| .nil) (.cons rfl (roMap (fk := FK122) (fv := FV3) (m := o4) tZ_119 (fun _ => rAgg (rld rfl)) (fun _ => .ren (.dat rfl))) <| .nil) rfl rfl (.dat rfl)
     ·
      refine T_skip ?_
      refine T_keep (kc 0 rfl <| kc 1 rfl <| kc 10 rfl <| kc 13 rfl <| kc 14 rfl <| kc 15 rfl <| kc 20 rfl <| kc 21 rfl <| kc 22 rfl <| kn) rfl ?_
      refine T_reg ?_
      refine R_q _ rfl (v_move (ov rfl)) ?_
      refine R_q _ rfl (v_loadA (ov rfl) rfl rfl rfl tA122 rfl rfl) ?_
      refine R_q _ rfl (v_move (ov rfl)) ?_
      refine R_w _ _ rfl (w_mapUpd (m := o4) (fk := FK122) (fv := FV3) (k := x2) (v := owner) (ov rfl) (ov rfl) (ov rfl) tMp119 tKO122 rfl (fun _ => .aggB rfl)) ?_
      refine R_nil ?_
      refine T_keep (kc 0 rfl <| kc 1 rfl <| kc 13 rfl <| kc 14 rfl <| kc 15 rfl <| kc 20 rfl <| kc 21 rfl <| kc 22 rfl <| kn) rfl ?_
      refine T_reg ?_
      refine R_q _ rfl (v_add (ov rfl) (ov rfl) rfl) ?_
      refine R_q _ rfl (v_move (ov rfl)) ?_
      refine R_nil ?_
      exact ⟨((mput kq_layout_bit o4 x2 owner), (i64 (i2 + 1))), h, Ent.sel [some 0] (sr 0 rfl (.mref _ rfl) <| sd 1 rfl rfl <| sd 13 rfl rfl <| sd 14 rfl rfl <| sd 15 rfl rfl <| sd 20 rfl rfl <| sd 21 rfl rfl <| sd 22 rfl rfl <| sn) (.cons rfl (roMap (fk := FK122) (fv := FV3) (m := (mput kq_layout_bit o4 x2 owner)) tZ_119 (fun _ => rAgg (rld rfl)) (fun _ => .ren (.dat rfl))) <| .nil) rfl rfl⟩
    ·
     refine T_exit ?_
     rw [lx h] at ho2
     replace h := ho2
     exact ⟨o4, h, Ent.sel [some 0] (sr 0 rfl (.mref _ rfl) <| sd 1 rfl rfl <| sd 13 rfl rfl <| sd 14 rfl rfl <| sd 15 rfl rfl <| sn) (.cons rfl (roMap (fk := FK122) (fv := FV3) (m := o4) tZ_119 (fun _ => rAgg (rld rfl)) (fun _ => .ren (.dat rfl))) <| .nil) rfl rfl⟩
   ·
    replace h := elr h
    obtain ⟨o3, rfl⟩ : ∃ x, x = j := ⟨_, rfl⟩
    replace h := t1i h
    refine t1T ?_
    refine T_reg ?_
    refine R_q _ rfl (v_add (ov rfl) (ov rfl) rfl) ?_
    refine R_q _ rfl (v_move (ov rfl)) ?_
    refine R_nil ?_
    exact ⟨(o3, (i64 (i + 1))), h, Ent.sel [some 0] (sr 0 rfl (.mref _ rfl) <| sd 1 rfl rfl <| sd 13 rfl rfl <| sd 14 rfl rfl <| sd 15 rfl rfl <| sn) (.cons rfl (roMap (fk := FK122) (fv := FV3) (m := o3) tZ_119 (fun _ => rAgg (rld rfl)) (fun _ => .ren (.dat rfl))) <| .nil) rfl rfl⟩
  ·
   refine T_exit ?_
   rw [lx h] at ho1
   replace h := ho1
   exact ⟨o2, h, Ent.sel [some 0] (sn) (.cons rfl (roMap (fk := FK122) (fv := FV3) (m := o2) tZ_119 (fun _ => rAgg (rld rfl)) (fun _ => .ren (.dat rfl))) <| .nil) rfl rfl⟩
 ·
  replace h := elr h
  obtain ⟨o, rfl⟩ : ∃ x, x = j := ⟨_, rfl⟩
  replace h := t1i h
  refine t1T ?_
  refine T_seq (T_reg ?_)
  refine R_q _ rfl (v_assign (ov rfl)) ?_
  refine R_nil ?_
  obtain rfl := rt (v := (true, o)) h
  refine T_ret ?_
  exact retg [some 0] rfl (.cons (.tmp rfl) <| .nil) (.cons rfl (roMap (fk := FK122) (fv := FV3) (m := o) tZ_119 (fun _ => rAgg (rld rfl)) (fun _ => .ren (.dat rfl))) <| .nil) rfl rfl (.dat rfl)

theorem ok_layout_CheckParam {p : api_Param} {r : Int} (h : layout_CheckParam p = some r) :
  CSpec Try.prog gl0 29 [.agg [.str p.Name, .int .i64 p.Kind, .sl 109 (List.map R109 p.Parts), .int .i64 p.First, .int .i64 p.Every, .int .i64 p.Times, .int .i64 p.Step, .sl 9 (List.map R9 p.Names)]] (.int .i64 r) := by
 unfold layout_CheckParam at h
 replace h := bnd0 h
 refine spec_of (by kernel_rfl) Try.func29 rfl rfl ?_
 intro w0 A
 refine T_seq (T_reg ?_)
 refine R_q _ rfl (v_boxD (cva (ov rfl)) rfl tZ_43 rfl) ?_
 refine R_q _ rfl (v_assign (ov rfl)) ?_
 refine R_nil ?_
 refine T_seq ?_
 refine T_keep (kc 1 rfl <| kn) rfl ?_
 refine T_seq (T_reg ?_)
 refine R_q _ rfl (v_fieldR (ov rfl) tF43_0) ?_
 refine R_q _ rfl (v_loadS_r (ov rfl) tS9 rfl) ?_
 obtain ⟨y, h_y, h⟩ := bnd h
 refine R_q _ rfl (v_call (ok_layout_isName h_y) (.cons (ov rfl) (.b rfl) <| .nil)) ?_
 refine R_q _ rfl (v_not (ov rfl)) ?_
 refine R_nil ?_
 refine T_keep (kc 1 rfl <| kc 12 rfl <| kn) rfl ?_
 refine T_if h rfl (fun b12 h => ?_) (fun b12 h => ?_)
 ·
  refine T_keep (kn) rfl ?_
  refine T_seq (T_reg ?_)
  refine R_q _ rfl (v_assign (ov rfl)) ?_
  refine R_nil ?_
  obtain rfl := rt (v := 8) h
  refine T_ret (retq ?_ (.one (.tmp rfl (Dat.view (.b rfl)))))
  rfl
 ·
  refine T_skip ?_
  refine T_seq ?_
  refine T_keep (kc 1 rfl <| kn) rfl ?_
  refine T_seq (T_reg ?_)
  refine R_q _ rfl (v_fieldR (ov rfl) tF43_1) ?_
  refine R_q _ rfl (v_loadS_r (ov rfl) tS3 rfl) ?_
  obtain ⟨y2, h_y2, h⟩ := bnd h
  refine R_q _ rfl (v_call (ok_layout_within h_y2) (.cons (ov rfl) (.b rfl) <| .cons (ov rfl) (.b rfl) <| .cons (ov rfl) (.b rfl) <| .nil)) ?_
  refine R_q _ rfl (v_not (ov rfl)) ?_
  refine R_nil ?_
  refine T_keep (kc 1 rfl <| kc 16 rfl <| kn) rfl ?_
  refine T_if h rfl (fun b16 h => ?_) (fun b16 h => ?_)
  ·
   refine T_keep (kn) rfl ?_
   refine T_seq (T_reg ?_)
   refine R_q _ rfl (v_assign (ov rfl)) ?_
   refine R_nil ?_
   obtain rfl := rt (v := 7) h
   refine T_ret (retq ?_ (.one (.tmp rfl (Dat.view (.b rfl)))))
   rfl
  ·
   refine T_skip ?_
   refine T_seq ?_
   refine T_keep (kc 1 rfl <| kn) rfl ?_
   refine T_seq (T_reg ?_)
   refine R_q _ rfl (v_loadA_r (ov rfl) tA43 rfl rfl) ?_
   obtain ⟨y3, h_y3, h⟩ := bnd h
   refine R_q _ rfl (v_call (ok_layout_checkParts h_y3) (.cons (ov rfl) (.aggB rfl) <| .nil)) ?_
   refine R_q _ rfl (v_assign (ov rfl)) ?_
   refine R_nil ?_
   refine T_keep (kc 1 rfl <| kc 3 rfl <| kn) rfl ?_
   refine T_seq (T_reg ?_)
   refine R_q _ rfl (v_move (ov rfl)) ?_
   refine R_q _ rfl (v_neq (ov rfl) (ov rfl)) ?_
   refine R_nil ?_
   refine T_keep (kc 1 rfl <| kc 3 rfl <| kc 20 rfl <| kn) rfl ?_
   refine T_if h rfl (fun b20 h => ?_) (fun b20 h => ?_)
   ·
    refine T_keep (kc 3 rfl <| kn) rfl ?_
    refine T_seq (T_reg ?_)
    refine R_q _ rfl (v_move (ov rfl)) ?_
    refine R_q _ rfl (v_assign (ov rfl)) ?_
    refine R_nil ?_
    obtain rfl := rt (v := y3) h
    refine T_ret (retq ?_ (.one (.tmp rfl (Dat.view (.b rfl)))))
    rfl
   ·
    refine T_skip ?_
    refine T_seq ?_
    refine T_keep (kc 1 rfl <| kn) rfl ?_
    refine T_seq (T_reg ?_)
    refine R_q _ rfl (v_loadA_r (ov rfl) tA43 rfl rfl) ?_
    obtain ⟨y4, h_y4, h⟩ := bnd h
    refine R_q _ rfl (v_call (ok_layout_checkNames h_y4) (.cons (ov rfl) (.aggB rfl) <| .nil)) ?_
    refine R_q _ rfl (v_assign (ov rfl)) ?_
    refine R_nil ?_
    refine T_keep (kc 1 rfl <| kc 4 rfl <| kn) rfl ?_
    refine T_seq (T_reg ?_)
    refine R_q _ rfl (v_move (ov rfl)) ?_
    refine R_q _ rfl (v_neq (ov rfl) (ov rfl)) ?_
    refine R_nil ?_
    refine T_keep (kc 1 rfl <| kc 4 rfl <| kc 25 rfl <| kn) rfl ?_
    refine T_if h rfl (fun b25 h => ?_) (fun b25 h => ?_)
    ·
     refine T_keep (kc 4 rfl <| kn) rfl ?_
     refine T_seq (T_reg ?_)
     refine R_q _ rfl (v_move (ov rfl)) ?_
     refine R_q _ rfl (v_assign (ov rfl)) ?_
     refine R_nil ?_
     obtain rfl := rt (v := y4) h
     refine T_ret (retq ?_ (.one (.tmp rfl (Dat.view (.b rfl)))))
     rfl
    ·
     refine T_skip ?_
     refine T_keep (kc 1 rfl <| kn) rfl ?_
     refine T_seq (T_reg ?_)
     refine R_w _ _ rfl (w_makeMap 0 rfl tMp119) ?_
     refine R_q _ rfl (v_assign (ov rfl)) ?_
     refine R_nil ?_
     refine T_keep (kc 1 rfl <| kc 5 rfl <| kn) rfl ?_
     refine T_seq (T_reg ?_)
     refine R_q _ rfl (v_loadA_r (ov rfl) tA43 rfl rfl) ?_
     obtain ⟨y5, h_y5, h⟩ := bnd h
     refine R_q _ rfl (v_call (ok_layout_cellsOf h_y5) (.cons (ov rfl) (.b rfl) <| .cons (ov rfl) (.aggB rfl) <| .nil)) ?_
     refine R_q _ rfl (v_assign (ov rfl)) ?_
     refine R_nil ?_
     refine T_joinG (fun j => (.inr j)) (t0 ⟨[(6, .sl 54 (List.map R54 y5))], []⟩) h (fun h => ?_) (fun j h => ?_)
     ·
      refine T_keep (kc 5 rfl <| kc 6 rfl <| kn) rfl ?_
      refine T_seq (T_reg ?_)
      refine R_q _ rfl (v_move (ov rfl)) ?_
      refine R_q _ rfl (v_len (slv_sl (ov rfl) tZ_54) tL62 (len_map _ _)) ?_
      refine R_q _ rfl (v_move (ov rfl)) ?_
      refine R_nil ?_
      refine T_block ?_
      obtain ⟨r1, hl1, ho1⟩ := bndL h
      refine T_loopG _ (t2 fun taken i => ⟨[(5, .mref 0 1), (6, .sl 54 (List.map R54 y5)), (30, .sl 54 (List.map R54 y5)), (31, .int .i64 (y5.length : Int)), (32, .int .i64 i)], [some ⟨119, [[.mcon (List.map (mrow FK122 FV3) taken)]]⟩]⟩) _ hl1 (Ent.sel [some 0] (sr 5 rfl (.mref _ rfl) <| sd 6 rfl rfl <| sd 30 rfl rfl <| sd 31 rfl rfl <| sd 32 rfl rfl <| sn) (.cons rfl (roMap (fk := FK122) (fv := FV3) (m := ([] : List (layout_bit × Int))) tZ_119 (fun _ => rAgg (rld rfl)) (fun _ => .ren (.dat rfl))) <| .nil) rfl rfl) (fun n1 s1 h => ?_)
      obtain ⟨taken, i⟩ := s1
      replace h := t2i h
      refine t2T ?_
      unfold layout_CheckParam_L1 at h
      refine T_seq (T_reg ?_)
      refine R_q _ rfl (v_lss (ov rfl) (ov rfl)) ?_
      refine R_nil ?_
      refine T_seq ?_
      refine T_if h rfl (fun b33 h => ?_) (fun b33 h => ?_)
      ·
       refine T_skip ?_
       refine T_seq ?_
       refine T_block ?_
       refine T_keep (kc 5 rfl <| kc 6 rfl <| kc 30 rfl <| kc 31 rfl <| kc 32 rfl <| kn) rfl ?_
       refine T_seq (T_reg ?_)
       obtain ⟨x, h_x, h⟩ := bnd h
       refine R_q _ rfl (v_ixSG (ov rfl) (ov rfl) tL62 h_x) ?_
       refine R_q _ rfl (v_loadA_r (ov rfl) tA54 rfl rfl) ?_
       refine R_w _ _ rfl (w_alloc (row := [_, _, _, _]) 1 rfl tZ54 rfl tZ_54) ?_
       refine R_w _ _ rfl (w_store (ov rfl) (ov rfl) (cells_agg tA54 rfl) rfl rfl rfl (Nat.le_of_ble_eq_true rfl) (cell1_all rfl) rfl) ?_
       refine R_nil ?_
       refine T_keep (kc 5 rfl <| kc 6 rfl <| kc 8 rfl <| kc 30 rfl <| kc 31 rfl <| kc 32 rfl <| kn) rfl ?_
       refine T_seq (T_reg ?_)
       refine R_q _ rfl (v_move (ov rfl)) ?_
       refine R_q _ rfl (v_fieldP (ov rfl) rfl rfl tF54_3) ?_
       refine R_q _ rfl (v_loadS (ov rfl) rfl rfl rfl tS52 rfl) ?_
       obtain ⟨y6, h_y6, h⟩ := bnd h
       refine R_w _ _ rfl (w_callG [0] (ok_layout_take h_y6) (.cons (ov rfl) (.mref _ rfl) <| .cons (ov rfl) (.dat rfl) <| .cons (ov rfl) (.dat rfl) <| .nil) (.cons rfl (roMap (fk := FK122) (fv := FV3) (m := taken) tZ_119 (fun _ => rAgg (rld rfl)) (fun _ => .ren (.dat rfl))) <| .nil) rfl (.lent 0 (.inl rfl) rfl (roMap (fk := FK122) (fv := FV3) (m := y6.2) tZ_119 (fun _ => rAgg (rld rfl)) (fun _ => .ren (.dat rfl))) <| .keep rfl rfl <| .nil) rfl rfl (.dat rfl)) ?_
       refine R_q _ rfl (v_not (ov rfl)) ?_
       refine R_nil ?_
       refine T_keep (kc 5 rfl <| kc 6 rfl <| kc 30 rfl <| kc 31 rfl <| kc 32 rfl <| kc 40 rfl <| kn) rfl ?_
       refine T_if h rfl (fun b40 h => ?_) (fun b40 h => ?_)
       ·
        refine T_keep (kn) rfl ?_
        refine T_seq (T_reg ?_)
        refine R_q _ rfl (v_assign (ov rfl)) ?_
        refine R_nil ?_
        rw [lx h] at ho1
        replace h := ho1
        obtain rfl := rt (v := 5) h
        refine T_ret (retq ?_ (.one (.tmp rfl (Dat.view (.b rfl)))))
        rfl
       ·
        refine T_skip ?_
        refine T_keep (kc 5 rfl <| kc 6 rfl <| kc 30 rfl <| kc 31 rfl <| kc 32 rfl <| kn) rfl ?_
        refine T_reg ?_
        refine R_q _ rfl (v_add (ov rfl) (ov rfl) rfl) ?_
        refine R_q _ rfl (v_move (ov rfl)) ?_
        refine R_nil ?_
        exact ⟨(y6.2, (i64 (i + 1))), h, Ent.sel [some 0] (sr 5 rfl (.mref _ rfl) <| sd 6 rfl rfl <| sd 30 rfl rfl <| sd 31 rfl rfl <| sd 32 rfl rfl <| sn) (.cons rfl (roMap (fk := FK122) (fv := FV3) (m := y6.2) tZ_119 (fun _ => rAgg (rld rfl)) (fun _ => .ren (.dat rfl))) <| .nil) rfl rfl⟩
      ·
       refine T_exit ?_
       rw [lx h] at ho1
       replace h := ho1
       exact ⟨(), h, Ent.sel [] (sd 6 rfl rfl <| sn) (.nil) rfl rfl⟩
     ·
      replace h := elr h
      cases j
      replace h := t0i h
      refine t0T ?_
      refine T_seq ?_
      refine T_seq (T_reg ?_)
      refine R_q _ rfl (v_move (ov rfl)) ?_
      refine R_q _ rfl (v_len (slv_sl (ov rfl) tZ_54) tL62 (len_map _ _)) ?_
      refine R_q _ rfl (v_eql (ov rfl) (ov rfl)) ?_
      refine R_nil ?_
      refine T_keep (kc 44 rfl <| kn) rfl ?_
      refine T_if h rfl (fun b44 h => ?_) (fun b44 h => ?_)
      ·
       refine T_keep (kn) rfl ?_
       refine T_seq (T_reg ?_)
       refine R_q _ rfl (v_assign (ov rfl)) ?_
       refine R_nil ?_
       obtain rfl := rt (v := 13) h
       refine T_ret (retq ?_ (.one (.tmp rfl (Dat.view (.b rfl)))))
       rfl
      ·
       refine T_skip ?_
       refine T_keep (kn) rfl ?_
       refine T_seq (T_reg ?_)
       refine R_q _ rfl (v_assign (ov rfl)) ?_
       refine R_nil ?_
       obtain rfl := rt (v := 0) h
       refine T_ret (retq ?_ (.one (.tmp rfl (Dat.view (.b rfl)))))
       rfl

theorem ok_slices_IndexFunc_api_Param_api_Param {s : List api_Param} {f : api_Param → Option Bool} {r : Int} {f_f : FuncId} {f_c : List AV} (f_d : f_c.all datB = true) (f_h : ∀ (z0 : api_Param) z, f z0 = some z → CSpec Try.prog gl0 f_f ([.agg [.str z0.Name, .int .i64 z0.Kind, .sl 109 (List.map R109 z0.Parts), .int .i64 z0.First, .int .i64 z0.Every, .int .i64 z0.Times, .int .i64 z0.Step, .sl 9 (List.map R9 z0.Names)]] ++ f_c) (.bool z)) (h : slices_IndexFunc_api_Param_api_Param s f = some r) :
  CSpec Try.prog gl0 133 [.sl 43 (List.map R43 s), .fn f_f f_c] (.int .i64 r) := by
 unfold slices_IndexFunc_api_Param_api_Param at h
 replace h := bnd0 h
 refine spec_of (by kernel_rfl) Try.func133 rfl rfl ?_
 intro w0 A
 refine T_seq (T_reg ?_)
 refine R_q _ rfl (v_assign (ov rfl)) ?_
 refine R_nil ?_
 refine T_joinG (fun j => (.inr j)) (t0 ⟨[], []⟩) h (fun h => ?_) (fun j h => ?_)
 ·
  refine T_keep (kc 0 rfl <| kc 1 rfl <| kn) rfl ?_
  refine T_seq (T_reg ?_)
  refine R_q _ rfl (v_move (ov rfl)) ?_
  refine R_q _ rfl (v_len (slv_sl (ov rfl) tZ_43) tL22 (len_map _ _)) ?_
  refine R_q _ rfl (v_move (ov rfl)) ?_
  refine R_nil ?_
  refine T_block ?_
  obtain ⟨r1, hl1, ho1⟩ := bndL h
  refine T_loopG _ (t1 fun i => ⟨[(0, .sl 43 (List.map R43 s)), (1, .fn f_f f_c), (7, .int .i64 (s.length : Int)), (8, .int .i64 i)], []⟩) _ hl1 (Ent.sel [] (sd 0 rfl rfl <| sr 1 rfl (rFn (rld f_d)) <| sd 7 rfl rfl <| sd 8 rfl rfl <| sn) (.nil) rfl rfl) (fun n1 s1 h => ?_)
  obtain ⟨i, rfl⟩ : ∃ x, x = s1 := ⟨_, rfl⟩
  replace h := t1i h
  refine t1T ?_
  unfold slices_IndexFunc_api_Param_api_Param_L1 at h
  refine T_seq (T_reg ?_)
  refine R_q _ rfl (v_lss (ov rfl) (ov rfl)) ?_
  refine R_nil ?_
  refine T_seq ?_
  refine T_if h rfl (fun b9 h => ?_) (fun b9 h => ?_)
  ·
   refine T_skip ?_
   refine T_seq ?_
   refine T_block ?_
   refine T_keep (kc 0 rfl <| kc 1 rfl <| kc 7 rfl <| kc 8 rfl <| kn) rfl ?_
   refine T_seq (T_reg ?_)
   refine R_q _ rfl (v_move (ov rfl)) ?_
   refine R_q _ rfl (v_assign (ov rfl)) ?_
   refine R_nil ?_
   refine T_keep (kc 0 rfl <| kc 1 rfl <| kc 5 rfl <| kc 7 rfl <| kc 8 rfl <| kn) rfl ?_
   refine T_seq (T_reg ?_)
   refine R_q _ rfl (v_move (ov rfl)) ?_
   refine R_q _ rfl (v_move (ov rfl)) ?_
   refine R_q _ rfl (v_move (ov rfl)) ?_
   obtain ⟨x, h_x, h⟩ := bnd h
   refine R_q _ rfl (v_ixSG (ov rfl) (ov rfl) tL22 h_x) ?_
   refine R_q _ rfl (v_loadA_r (ov rfl) tA43 rfl rfl) ?_
   obtain ⟨y, h_y, h⟩ := bnd h
   refine R_q _ rfl (v_callC (ov rfl) f_d (f_h _ _ h_y) (.cons (ov rfl) (.aggB rfl) <| .nil)) ?_
   refine R_nil ?_
   refine T_keep (kc 0 rfl <| kc 1 rfl <| kc 5 rfl <| kc 7 rfl <| kc 8 rfl <| kc 16 rfl <| kn) rfl ?_
   refine T_if h rfl (fun b16 h => ?_) (fun b16 h => ?_)
   ·
    refine T_keep (kc 5 rfl <| kn) rfl ?_
    refine T_seq (T_reg ?_)
    refine R_q _ rfl (v_move (ov rfl)) ?_
    refine R_q _ rfl (v_assign (ov rfl)) ?_
    refine R_nil ?_
    rw [lx h] at ho1
    replace h := ho1
    obtain rfl := rt (v := i) h
    refine T_ret (retq ?_ (.one (.tmp rfl (Dat.view (.b rfl)))))
    rfl
   ·
    refine T_skip ?_
    refine T_keep (kc 0 rfl <| kc 1 rfl <| kc 7 rfl <| kc 8 rfl <| kn) rfl ?_
    refine T_reg ?_
    refine R_q _ rfl (v_add (ov rfl) (ov rfl) rfl) ?_
    refine R_q _ rfl (v_move (ov rfl)) ?_
    refine R_nil ?_
    exact ⟨(i64 (i + 1)), h, Ent.sel [] (sd 0 rfl rfl <| sr 1 rfl (rFn (rld f_d)) <| sd 7 rfl rfl <| sd 8 rfl rfl <| sn) (.nil) rfl rfl⟩
  ·
   refine T_exit ?_
   rw [lx h] at ho1
   replace h := ho1
   exact ⟨(), h, Ent.sel [] (sn) (.nil) rfl rfl⟩
 ·
  replace h := elr h
  cases j
  replace h := t0i h
  refine t0T ?_
  refine T_seq (T_reg ?_)
  refine R_q _ rfl (v_assign (ov rfl)) ?_
  refine R_nil ?_
  obtain rfl := rt (v := (-1)) h
  refine T_ret (retq ?_ (.one (.tmp rfl (Dat.view (.b rfl)))))
  rfl

theorem ok_slices_ContainsFunc_api_Param_api_Param {s : List api_Param} {f : api_Param → Option Bool} {r : Bool} {f_f : FuncId} {f_c : List AV} (f_d : f_c.all datB = true) (f_h : ∀ (z0 : api_Param) z, f z0 = some z → CSpec Try.prog gl0 f_f ([.agg [.str z0.Name, .int .i64 z0.Kind, .sl 109 (List.map R109 z0.Parts), .int .i64 z0.First, .int .i64 z0.Every, .int .i64 z0.Times, .int .i64 z0.Step, .sl 9 (List.map R9 z0.Names)]] ++ f_c) (.bool z)) (h : slices_ContainsFunc_api_Param_api_Param s f = some r) :
  CSpec Try.prog gl0 98 [.sl 43 (List.map R43 s), .fn f_f f_c] (.bool r) := by
 unfold slices_ContainsFunc_api_Param_api_Param at h
 replace h := bnd0 h
 refine spec_of (by kernel_rfl) Try.func98 rfl rfl ?_
 intro w0 A
 refine T_seq (T_reg ?_)
 refine R_q _ rfl (v_assign (ov rfl)) ?_
 refine R_nil ?_
 refine T_seq (T_reg ?_)
 refine R_q _ rfl (v_move (ov rfl)) ?_
 refine R_q _ rfl (v_move (ov rfl)) ?_
 obtain ⟨y, h_y, h⟩ := bnd h
 refine R_q _ rfl (v_call (ok_slices_IndexFunc_api_Param_api_Param f_d f_h h_y) (.cons (ov rfl) (.b rfl) <| .cons (ov rfl) (Dat.fnC (.refl fun x hx => .b (List.all_eq_true.1 f_d x hx))) <| .nil)) ?_
 refine R_q _ rfl (v_geq (ov rfl) (ov rfl)) ?_
 refine R_q _ rfl (v_assign (ov rfl)) ?_
 refine R_nil ?_
 obtain rfl := rt (v := (decide (0 ≤ y))) h
 refine T_ret (retq ?_ (.one (.tmp rfl (Dat.view (.b rfl)))))
 rfl

theorem ok_layout_check_1 {q : api_Param} {c0 : api_Param} {r : Bool} (h : layout_check_1 q c0 = some r) :
  CSpec Try.prog gl0 102 [.agg [.str q.Name, .int .i64 q.Kind, .sl 109 (List.map R109 q.Parts), .int .i64 q.First, .int .i64 q.Every, .int .i64 q.Times, .int .i64 q.Step, .sl 9 (List.map R9 q.Names)], .rp [.str c0.Name, .int .i64 c0.Kind, .sl 109 (List.map R109 c0.Parts), .int .i64 c0.First, .int .i64 c0.Every, .int .i64 c0.Times, .int .i64 c0.Step, .sl 9 (List.map R9 c0.Names)] 0] (.bool r) := by
 unfold layout_check_1 at h
 replace h := bnd0 h
 refine spec_of (by kernel_rfl) Try.func102 rfl rfl ?_
 intro w0 A
 refine T_seq (T_reg ?_)
 refine R_q _ rfl (v_boxD (cva (ov rfl)) rfl tZ_43 rfl) ?_
 refine R_q _ rfl (v_assign (ov rfl)) ?_
 refine R_nil ?_
 refine T_keep (kc 1 rfl <| kc 2 rfl <| kc 3 rfl <| kn) rfl ?_
 refine T_seq (T_reg ?_)
 refine R_q _ rfl (v_fieldR (ov rfl) tF43_0) ?_
 refine R_q _ rfl (v_loadS_r (ov rfl) tS9 rfl) ?_
 refine R_q _ rfl (v_fieldR (ov rfl) tF43_0) ?_
 refine R_q _ rfl (v_loadS_r (ov rfl) tS9 rfl) ?_
 refine R_q _ rfl (v_eqlStr (ov rfl) (ov rfl)) ?_
 refine R_q _ rfl (v_assign (ov rfl)) ?_
 refine R_nil ?_
 obtain rfl := rt (v := (decide (q.Name = c0.Name))) h
 refine T_ret (retq ?_ (.one (.tmp rfl (Dat.view (.b rfl)))))
 rfl

theorem ok_layout_check {m : api_Map} {r : Int × Int} (h : layout_check m = some r) :
  CSpec Try.prog gl0 57 [.agg [.int .i64 m.Version, .sl 43 (List.map R43 m.Params)]] (.tuple [.int .i64 r.1, .int .i64 r.2]) := by
 unfold layout_check at h
 replace h := bnd0 h
 refine spec_of (by kernel_rfl) Try.func57 rfl rfl ?_
 intro w0 A
 refine T_seq (T_reg ?_)
 refine R_q _ rfl (v_boxD (cva (ov rfl)) rfl tZ_24 rfl) ?_
 refine R_q _ rfl (v_assign (ov rfl)) ?_
 refine R_q _ rfl (v_assign (ov rfl)) ?_
 refine R_nil ?_
 refine T_seq ?_
 refine T_keep (kc 1 rfl <| kn) rfl ?_
 refine T_seq (T_reg ?_)
 refine R_q _ rfl (v_fieldR (ov rfl) tF24_0) ?_
 refine R_q _ rfl (v_loadS_r (ov rfl) tS3 rfl) ?_
 obtain ⟨y, h_y, h⟩ := bnd h
 refine R_q _ rfl (v_call (ok_layout_within h_y) (.cons (ov rfl) (.b rfl) <| .cons (ov rfl) (.b rfl) <| .cons (ov rfl) (.b rfl) <| .nil)) ?_
 refine R_q _ rfl (v_not (ov rfl)) ?_
 refine R_nil ?_
 refine T_keep (kc 1 rfl <| kc 18 rfl <| kn) rfl ?_
 refine T_if h rfl (fun b18 h => ?_) (fun b18 h => ?_)
 ·
  refine T_keep (kn) rfl ?_
  refine T_seq (T_reg ?_)
  refine R_q _ rfl (v_assign (ov rfl)) ?_
  refine R_q _ rfl (v_assign (ov rfl)) ?_
  refine R_nil ?_
  obtain rfl := rt (v := ((-1), 9)) h
  refine T_ret (retq ?_ (.two (.tmp rfl (Dat.view (.b rfl))) (.tmp rfl (Dat.view (.b rfl)))))
  rfl
 ·
  refine T_skip ?_
  refine T_seq ?_
  refine T_keep (kc 1 rfl <| kn) rfl ?_
  refine T_seq (T_reg ?_)
  refine R_q _ rfl (v_fieldR (ov rfl) tF24_1) ?_
  refine R_q _ rfl (v_loadS_r (ov rfl) tS22 rfl) ?_
  refine R_q _ rfl (v_len (slv_sl (ov rfl) tZ_43) tL22 (len_map _ _)) ?_
  refine R_q _ rfl (v_gtr (ov rfl) (ov rfl)) ?_
  refine R_nil ?_
  refine T_keep (kc 1 rfl <| kc 22 rfl <| kn) rfl ?_
  refine T_if h rfl (fun b22 h => ?_) (fun b22 h => ?_)
  ·
   refine T_keep (kn) rfl ?_
   refine T_seq (T_reg ?_)
   refine R_q _ rfl (v_assign (ov rfl)) ?_
   refine R_q _ rfl (v_assign (ov rfl)) ?_
   refine R_nil ?_
   obtain rfl := rt (v := ((-1), 3)) h
   refine T_ret (retq ?_ (.two (.tmp rfl (Dat.view (.b rfl))) (.tmp rfl (Dat.view (.b rfl)))))
   rfl
  ·
   refine T_skip ?_
   refine T_joinG (fun j => (.inr j)) (t0 ⟨[(1, .rp [.int .i64 m.Version, .sl 43 (List.map R43 m.Params)] 0)], []⟩) h (fun h => ?_) (fun j h => ?_)
   ·
    refine T_keep (kc 1 rfl <| kn) rfl ?_
    refine T_seq (T_reg ?_)
    refine R_q _ rfl (v_fieldR (ov rfl) tF24_1) ?_
    refine R_q _ rfl (v_loadS_r (ov rfl) tS22 rfl) ?_
    refine R_q _ rfl (v_len (slv_sl (ov rfl) tZ_43) tL22 (len_map _ _)) ?_
    refine R_q _ rfl (v_move (ov rfl)) ?_
    refine R_nil ?_
    refine T_block ?_
    obtain ⟨r1, hl1, ho1⟩ := bndL h
    refine T_loopG _ (t1 fun i => ⟨[(1, .rp [.int .i64 m.Version, .sl 43 (List.map R43 m.Params)] 0), (24, .sl 43 (List.map R43 m.Params)), (25, .int .i64 (m.Params.length : Int)), (26, .int .i64 i)], []⟩) _ hl1 (Ent.sel [] (sd 1 rfl rfl <| sd 24 rfl rfl <| sd 25 rfl rfl <| sd 26 rfl rfl <| sn) (.nil) rfl rfl) (fun n1 s1 h => ?_)
    obtain ⟨i, rfl⟩ : ∃ x, x = s1 := ⟨_, rfl⟩
    replace h := t1i h
    refine t1T ?_
    unfold layout_check_L1 at h
    refine T_seq (T_reg ?_)
    refine R_q _ rfl (v_lss (ov rfl) (ov rfl)) ?_
    refine R_nil ?_
    refine T_seq ?_
    refine T_if h rfl (fun b27 h => ?_) (fun b27 h => ?_)
    ·
     refine T_skip ?_
     refine T_seq ?_
     refine T_block ?_
     refine T_keep (kc 1 rfl <| kc 24 rfl <| kc 25 rfl <| kc 26 rfl <| kn) rfl ?_
     refine T_seq (T_reg ?_)
     refine R_q _ rfl (v_move (ov rfl)) ?_
     obtain ⟨x, h_x, h⟩ := bnd h
     refine R_q _ rfl (v_ixSG (ov rfl) (ov rfl) tL22 h_x) ?_
     refine R_q _ rfl (v_loadA_r (ov rfl) tA43 rfl rfl) ?_
     refine R_w _ _ rfl (w_alloc (row := [_, _, _, _, _, _, _, _]) 0 rfl tZ43 rfl tZ_43) ?_
     refine R_q _ rfl (v_assign (ov rfl)) ?_
     refine R_w _ _ rfl (w_store (ov rfl) (ov rfl) (cells_agg tA43 rfl) rfl rfl rfl (Nat.le_of_ble_eq_true rfl) (cell1_all rfl) rfl) ?_
     refine R_nil ?_
     refine T_seq ?_
     refine T_keep (kc 1 rfl <| kc 4 rfl <| kc 5 rfl <| kc 24 rfl <| kc 25 rfl <| kc 26 rfl <| kn) rfl ?_
     refine T_seq (T_reg ?_)
     refine R_q _ rfl (v_loadA (ov rfl) rfl rfl rfl tA43 rfl rfl) ?_
     obtain ⟨y2, h_y2, h⟩ := bnd h
     refine R_q _ rfl (v_call (ok_layout_CheckParam h_y2) (.cons (ov rfl) (.aggB rfl) <| .nil)) ?_
     refine R_q _ rfl (v_assign (ov rfl)) ?_
     refine R_nil ?_
     refine T_keep (kc 1 rfl <| kc 4 rfl <| kc 5 rfl <| kc 6 rfl <| kc 24 rfl <| kc 25 rfl <| kc 26 rfl <| kn) rfl ?_
     refine T_seq (T_reg ?_)
     refine R_q _ rfl (v_move (ov rfl)) ?_
     refine R_q _ rfl (v_neq (ov rfl) (ov rfl)) ?_
     refine R_nil ?_
     refine T_keep (kc 1 rfl <| kc 4 rfl <| kc 5 rfl <| kc 6 rfl <| kc 24 rfl <| kc 25 rfl <| kc 26 rfl <| kc 34 rfl <| kn) rfl ?_
     refine T_if h rfl (fun b34 h => ?_) (fun b34 h => ?_)
     ·
      refine T_keep (kc 4 rfl <| kc 6 rfl <| kn) rfl ?_
      refine T_seq (T_reg ?_)
      refine R_q _ rfl (v_move (ov rfl)) ?_
      refine R_q _ rfl (v_move (ov rfl)) ?_
      refine R_q _ rfl (v_assign (ov rfl)) ?_
      refine R_q _ rfl (v_assign (ov rfl)) ?_
      refine R_nil ?_
      rw [lx h] at ho1
      replace h := ho1
      obtain rfl := rt (v := (i, y2)) h
      refine T_ret (retq ?_ (.two (.tmp rfl (Dat.view (.b rfl))) (.tmp rfl (Dat.view (.b rfl)))))
      rfl
     ·
      refine T_skip ?_
      refine T_keep (kc 1 rfl <| kc 4 rfl <| kc 5 rfl <| kc 24 rfl <| kc 25 rfl <| kc 26 rfl <| kn) rfl ?_
      refine T_seq (T_reg ?_)
      refine R_q _ rfl (v_fieldR (ov rfl) tF24_1) ?_
      refine R_q _ rfl (v_loadS_r (ov rfl) tS22 rfl) ?_
      refine R_q _ rfl (v_move (ov rfl)) ?_
      obtain ⟨l, h_l, h⟩ := bnd h
      refine R_q _ rfl (v_sliceG (ov rfl) tL22 on (oi (ov rfl)) h_l) ?_
      refine R_ent (Ent.sel [none] (sd 1 rfl rfl <| sd 4 rfl rfl <| sr 5 rfl (.frp ⟨rfl, ⟨_, rfl⟩, rfl, rfl⟩) <| sd 24 rfl rfl <| sd 25 rfl rfl <| sd 26 rfl rfl <| sd 37 rfl rfl <| sd 38 rfl rfl <| sd 39 rfl rfl <| sd 40 rfl rfl <| sn) (.row 43 <| .nil) rfl rfl) ?_
      refine R_q _ rfl (v_makeFunc (.cons (ov rfl) <| .nil)) ?_
      obtain ⟨y3, h_y3, h⟩ := bnd h
      refine R_q _ rfl (v_call (ok_slices_ContainsFunc_api_Param_api_Param rfl (fun z0 _ hz => ok_layout_check_1 hz) h_y3) (.cons (ov rfl) (.b rfl) <| .cons (ov rfl) (.fnC (.cons (.b rfl) <| .nil)) <| .nil)) ?_
      refine R_nil ?_
      refine T_keep (kc 1 rfl <| kc 4 rfl <| kc 24 rfl <| kc 25 rfl <| kc 26 rfl <| kc 42 rfl <| kn) rfl ?_
      refine T_if h rfl (fun b42 h => ?_) (fun b42 h => ?_)
      ·
       refine T_keep (kc 4 rfl <| kn) rfl ?_
       refine T_seq (T_reg ?_)
       refine R_q _ rfl (v_move (ov rfl)) ?_
       refine R_q _ rfl (v_assign (ov rfl)) ?_
       refine R_q _ rfl (v_assign (ov rfl)) ?_
       refine R_nil ?_
       rw [lx h] at ho1
       replace h := ho1
       obtain rfl := rt (v := (i, 5)) h
       refine T_ret (retq ?_ (.two (.tmp rfl (Dat.view (.b rfl))) (.tmp rfl (Dat.view (.b rfl)))))
       rfl
      ·
       refine T_skip ?_
       refine T_keep (kc 1 rfl <| kc 24 rfl <| kc 25 rfl <| kc 26 rfl <| kn) rfl ?_
       refine T_reg ?_
       refine R_q _ rfl (v_add (ov rfl) (ov rfl) rfl) ?_
       refine R_q _ rfl (v_move (ov rfl)) ?_
       refine R_nil ?_
       exact ⟨(i64 (i + 1)), h, Ent.sel [] (sd 1 rfl rfl <| sd 24 rfl rfl <| sd 25 rfl rfl <| sd 26 rfl rfl <| sn) (.nil) rfl rfl⟩
    ·
     refine T_exit ?_
     rw [lx h] at ho1
     replace h := ho1
     exact ⟨(), h, Ent.sel [] (sd 1 rfl rfl <| sn) (.nil) rfl rfl⟩
   ·
    replace h := elr h
    cases j
    replace h := t0i h
    refine t0T ?_
    refine T_seq (T_reg ?_)
    refine R_q _ rfl (v_assign (ov rfl)) ?_
    refine R_nil ?_
    refine T_joinG (fun j => (.inr j)) (t0 ⟨[(1, .rp [.int .i64 m.Version, .sl 43 (List.map R43 m.Params)] 0)], []⟩) h (fun h => ?_) (fun j h => ?_)
    ·
     refine T_seq (T_reg ?_)
     refine R_q _ rfl (v_fieldR (ov rfl) tF24_1) ?_
     refine R_q _ rfl (v_loadS_r (ov rfl) tS22 rfl) ?_
     refine R_q _ rfl (v_len (slv_sl (ov rfl) tZ_43) tL22 (len_map _ _)) ?_
     refine R_q _ rfl (v_move (ov rfl)) ?_
     refine R_nil ?_
     refine T_block ?_
     obtain ⟨r2, hl2, ho2⟩ := bndL h
     refine T_loopG _ (t2 fun cells i2 => ⟨[(1, .rp [.int .i64 m.Version, .sl 43 (List.map R43 m.Params)] 0), (7, .int .i64 cells), (46, .sl 43 (List.map R43 m.Params)), (47, .int .i64 (m.Params.length : Int)), (48, .int .i64 i2)], []⟩) _ hl2 (Ent.sel [] (sd 1 rfl rfl <| sd 7 rfl rfl <| sd 46 rfl rfl <| sd 47 rfl rfl <| sd 48 rfl rfl <| sn) (.nil) rfl rfl) (fun n2 s2 h => ?_)
     obtain ⟨cells, i2⟩ := s2
     replace h := t2i h
     refine t2T ?_
     unfold layout_check_L2 at h
     refine T_seq (T_reg ?_)
     refine R_q _ rfl (v_lss (ov rfl) (ov rfl)) ?_
     refine R_nil ?_
     refine T_seq ?_
     refine T_if h rfl (fun b49 h => ?_) (fun b49 h => ?_)
     ·
      refine T_skip ?_
      refine T_seq ?_
      refine T_block ?_
      refine T_keep (kc 1 rfl <| kc 7 rfl <| kc 46 rfl <| kc 47 rfl <| kc 48 rfl <| kn) rfl ?_
      refine T_seq (T_reg ?_)
      refine R_q _ rfl (v_move (ov rfl)) ?_
      obtain ⟨x2, h_x2, h⟩ := bnd h
      refine R_q _ rfl (v_ixSG (ov rfl) (ov rfl) tL22 h_x2) ?_
      refine R_q _ rfl (v_loadA_r (ov rfl) tA43 rfl rfl) ?_
      refine R_w _ _ rfl (w_alloc (row := [_, _, _, _, _, _, _, _]) 0 rfl tZ43 rfl tZ_43) ?_
      refine R_q _ rfl (v_assign (ov rfl)) ?_
      refine R_w _ _ rfl (w_store (ov rfl) (ov rfl) (cells_agg tA43 rfl) rfl rfl rfl (Nat.le_of_ble_eq_true rfl) (cell1_all rfl) rfl) ?_
      refine R_nil ?_
      refine T_keep (kc 1 rfl <| kc 7 rfl <| kc 8 rfl <| kc 9 rfl <| kc 46 rfl <| kc 47 rfl <| kc 48 rfl <| kn) rfl ?_
      refine T_seq (T_draw (cw := md0) (by kernel_rfl) ?_)
      refine D_q0 0 _ rfl (by kernel_rfl) rfl rfl (v_move (ov rfl)) ?_
      refine D_q0 1 _ rfl (by kernel_rfl) rfl rfl (v_loadA (ov rfl) rfl rfl rfl tA43 rfl rfl) ?_
      obtain ⟨y4, h_y4, h⟩ := bnd h
      refine D_q0 2 _ rfl (by kernel_rfl) rfl rfl (v_call (ok_layout_starts h_y4) (.cons (ov rfl) (.aggB rfl) <| .nil)) ?_
      refine D_q0 3 _ rfl (by kernel_rfl) rfl rfl (v_len (slv_sl (ov rfl) tZ_3) tL25 (len_map _ _)) ?_
      refine D_q0 4 _ rfl (by kernel_rfl) rfl rfl (v_fieldP (ov rfl) rfl rfl tF43_5) ?_
      refine D_q0 5 _ rfl (by kernel_rfl) rfl rfl (v_loadS (ov rfl) rfl rfl rfl tS3 rfl) ?_
      refine D_q0 6 _ rfl (by kernel_rfl) rfl rfl (v_mul (ov rfl) (ov rfl) rfl) ?_
      refine D_q0 7 _ rfl (by kernel_rfl) rfl rfl (v_add (ov rfl) (ov rfl) rfl) ?_
      refine D_q0 8 _ rfl (by kernel_rfl) rfl rfl (v_assign (ov rfl)) ?_
      refine D_done (by kernel_rfl) ?_
      refine T_keep (kc 1 rfl <| kc 7 rfl <| kc 8 rfl <| kc 46 rfl <| kc 47 rfl <| kc 48 rfl <| kn) rfl ?_
      refine T_seq (T_reg ?_)
      refine R_q _ rfl (v_move (ov rfl)) ?_
      refine R_q _ rfl (v_gtr (ov rfl) (ov rfl)) ?_
      refine R_nil ?_
      refine T_keep (kc 1 rfl <| kc 7 rfl <| kc 8 rfl <| kc 46 rfl <| kc 47 rfl <| kc 48 rfl <| kc 62 rfl <| kn) rfl ?_
      refine T_if h rfl (fun b62 h => ?_) (fun b62 h => ?_)
      ·
       refine T_keep (kc 8 rfl <| kn) rfl ?_
       refine T_seq (T_reg ?_)
       refine R_q _ rfl (v_move (ov rfl)) ?_
       refine R_q _ rfl (v_assign (ov rfl)) ?_
       refine R_q _ rfl (v_assign (ov rfl)) ?_
       refine R_nil ?_
       rw [lx h] at ho2
       replace h := ho2
       obtain rfl := rt (v := (i2, 3)) h
       refine T_ret (retq ?_ (.two (.tmp rfl (Dat.view (.b rfl))) (.tmp rfl (Dat.view (.b rfl)))))
       rfl
      ·
       refine T_skip ?_
       refine T_keep (kc 1 rfl <| kc 7 rfl <| kc 46 rfl <| kc 47 rfl <| kc 48 rfl <| kn) rfl ?_
       refine T_reg ?_
       refine R_q _ rfl (v_add (ov rfl) (ov rfl) rfl) ?_
       refine R_q _ rfl (v_move (ov rfl)) ?_
       refine R_nil ?_
       exact ⟨((i64 (cells + (i64 ((y4.length : Int) * x2.Times)))), (i64 (i2 + 1))), h, Ent.sel [] (sd 1 rfl rfl <| sd 7 rfl rfl <| sd 46 rfl rfl <| sd 47 rfl rfl <| sd 48 rfl rfl <| sn) (.nil) rfl rfl⟩
     ·
      refine T_exit ?_
      rw [lx h] at ho2
      replace h := ho2
      exact ⟨(), h, Ent.sel [] (sd 1 rfl rfl <| sn) (.nil) rfl rfl⟩
    ·
     replace h := elr h
     cases j
     replace h := t0i h
     refine t0T ?_
     refine T_seq (T_reg ?_)
     refine R_w _ _ rfl (w_makeMap 0 rfl tMp119) ?_
     refine R_q _ rfl (v_assign (ov rfl)) ?_
     refine R_nil ?_
     refine T_joinG (fun j => (.inr j)) (t0 ⟨[], []⟩) h (fun h => ?_) (fun j h => ?_)
     ·
      refine T_keep (kc 1 rfl <| kc 10 rfl <| kn) rfl ?_
      refine T_seq (T_reg ?_)
      refine R_q _ rfl (v_fieldR (ov rfl) tF24_1) ?_
      refine R_q _ rfl (v_loadS_r (ov rfl) tS22 rfl) ?_
      refine R_q _ rfl (v_len (slv_sl (ov rfl) tZ_43) tL22 (len_map _ _)) ?_
      refine R_q _ rfl (v_move (ov rfl)) ?_
      refine R_nil ?_
      refine T_block ?_
      obtain ⟨r3, hl3, ho3⟩ := bndL h
      refine T_loopG _ (t2 fun taken i3 => ⟨[(10, .mref 0 1), (67, .sl 43 (List.map R43 m.Params)), (68, .int .i64 (m.Params.length : Int)), (69, .int .i64 i3)], [some ⟨119, [[.mcon (List.map (mrow FK122 FV3) taken)]]⟩]⟩) _ hl3 (Ent.sel [some 0] (sr 10 rfl (.mref _ rfl) <| sd 67 rfl rfl <| sd 68 rfl rfl <| sd 69 rfl rfl <| sn) (.cons rfl (roMap (fk := FK122) (fv := FV3) (m := ([] : List (layout_bit × Int))) tZ_119 (fun _ => rAgg (rld rfl)) (fun _ => .ren (.dat rfl))) <| .nil) rfl rfl) (fun n3 s3 h => ?_)
      obtain ⟨taken, i3⟩ := s3
      replace h := t2i h
      refine t2T ?_
      unfold layout_check_L3 at h
      refine T_seq (T_reg ?_)
      refine R_q _ rfl (v_lss (ov rfl) (ov rfl)) ?_
      refine R_nil ?_
      refine T_seq ?_
      refine T_if h rfl (fun b70 h => ?_) (fun b70 h => ?_)
      ·
       refine T_skip ?_
       refine T_joinG (fun j => (.inr j)) (t1 fun taken2 => ⟨[(10, .mref 0 1), (67, .sl 43 (List.map R43 m.Params)), (68, .int .i64 (m.Params.length : Int)), (69, .int .i64 i3)], [some ⟨119, [[.mcon (List.map (mrow FK122 FV3) taken2)]]⟩]⟩) h (fun h => ?_) (fun j h => ?_)
       ·
        refine T_block ?_
        refine T_keep (kc 10 rfl <| kc 67 rfl <| kc 68 rfl <| kc 69 rfl <| kn) rfl ?_
        refine T_seq (T_reg ?_)
        refine R_q _ rfl (v_move (ov rfl)) ?_
        obtain ⟨x3, h_x3, h⟩ := bnd h
        refine R_q _ rfl (v_ixSG (ov rfl) (ov rfl) tL22 h_x3) ?_
        refine R_q _ rfl (v_loadA_r (ov rfl) tA43 rfl rfl) ?_
        refine R_w _ _ rfl (w_alloc (row := [_, _, _, _, _, _, _, _]) 1 rfl tZ43 rfl tZ_43) ?_
        refine R_q _ rfl (v_assign (ov rfl)) ?_
        refine R_w _ _ rfl (w_store (ov rfl) (ov rfl) (cells_agg tA43 rfl) rfl rfl rfl (Nat.le_of_ble_eq_true rfl) (cell1_all rfl) rfl) ?_
        refine R_nil ?_
        refine T_keep (kc 10 rfl <| kc 11 rfl <| kc 12 rfl <| kc 67 rfl <| kc 68 rfl <| kc 69 rfl <| kn) rfl ?_
        refine T_seq (T_reg ?_)
        refine R_q _ rfl (v_move (ov rfl)) ?_
        refine R_q _ rfl (v_loadA (ov rfl) rfl rfl rfl tA43 rfl rfl) ?_
        obtain ⟨y5, h_y5, h⟩ := bnd h
        refine R_q _ rfl (v_call (ok_layout_cellsOf h_y5) (.cons (ov rfl) (.b rfl) <| .cons (ov rfl) (.aggB rfl) <| .nil)) ?_
        refine R_q _ rfl (v_len (slv_sl (ov rfl) tZ_54) tL62 (len_map _ _)) ?_
        refine R_q _ rfl (v_move (ov rfl)) ?_
        refine R_nil ?_
        refine T_block ?_
        obtain ⟨r4, hl4, ho4⟩ := bndL h
        refine T_loopG _ (t2 fun taken3 i4 => ⟨[(10, .mref 0 1), (11, .int .i64 i3), (67, .sl 43 (List.map R43 m.Params)), (68, .int .i64 (m.Params.length : Int)), (69, .int .i64 i3), (76, .sl 54 (List.map R54 y5)), (77, .int .i64 (y5.length : Int)), (78, .int .i64 i4)], [some ⟨119, [[.mcon (List.map (mrow FK122 FV3) taken3)]]⟩]⟩) _ hl4 (Ent.sel [some 0] (sr 10 rfl (.mref _ rfl) <| sd 11 rfl rfl <| sd 67 rfl rfl <| sd 68 rfl rfl <| sd 69 rfl rfl <| sd 76 rfl rfl <| sd 77 rfl rfl <| sd 78 rfl rfl <| sn) (.cons rfl (roMap (fk := FK122) (fv := FV3) (m := taken) tZ_119 (fun _ => rAgg (rld rfl)) (fun _ => .ren (.dat rfl))) <| .nil) rfl rfl) (fun n4 s4 h => ?_)
        obtain ⟨taken3, i4⟩ := s4
        replace h := t2i h
        refine t2T ?_
        unfold layout_check_L4 at h
        refine T_seq (T_reg ?_)
        refine R_q _ rfl (v_lss (ov rfl) (ov rfl)) ?_
        refine R_nil ?_
        refine T_seq ?_
        refine T_if h rfl (fun b79 h => ?_) (fun b79 h => ?_)
        ·
         refine T_skip ?_
         refine T_seq ?_
         refine T_block ?_
         refine T_keep (kc 10 rfl <| kc 11 rfl <| kc 67 rfl <| kc 68 rfl <| kc 69 rfl <| kc 76 rfl <| kc 77 rfl <| kc 78 rfl <| kn) rfl ?_
         refine T_seq (T_reg ?_)
         obtain ⟨x4, h_x4, h⟩ := bnd h
         refine R_q _ rfl (v_ixSG (ov rfl) (ov rfl) tL62 h_x4) ?_
         refine R_q _ rfl (v_loadA_r (ov rfl) tA54 rfl rfl) ?_
         refine R_w _ _ rfl (w_alloc (row := [_, _, _, _]) 1 rfl tZ54 rfl tZ_54) ?_
         refine R_w _ _ rfl (w_store (ov rfl) (ov rfl) (cells_agg tA54 rfl) rfl rfl rfl (Nat.le_of_ble_eq_true rfl) (cell1_all rfl) rfl) ?_
         refine R_nil ?_
         refine T_keep (kc 10 rfl <| kc 11 rfl <| kc 14 rfl <| kc 67 rfl <| kc 68 rfl <| kc 69 rfl <| kc 76 rfl <| kc 77 rfl <| kc 78 rfl <| kn) rfl ?_
         refine T_seq (T_reg ?_)
         refine R_q _ rfl (v_move (ov rfl)) ?_
         refine R_q _ rfl (v_move (ov rfl)) ?_
         refine R_q _ rfl (v_fieldP (ov rfl) rfl rfl tF54_3) ?_
         refine R_q _ rfl (v_loadS (ov rfl) rfl rfl rfl tS52 rfl) ?_
         obtain ⟨y6, h_y6, h⟩ := bnd h
         refine R_w _ _ rfl (w_callG [0] (ok_layout_take h_y6) (.cons (ov rfl) (.mref _ rfl) <| .cons (ov rfl) (.dat rfl) <| .cons (ov rfl) (.dat rfl) <| .nil) (.cons rfl (roMap (fk := FK122) (fv := FV3) (m := taken3) tZ_119 (fun _ => rAgg (rld rfl)) (fun _ => .ren (.dat rfl))) <| .nil) rfl (.lent 0 (.inl rfl) rfl (roMap (fk := FK122) (fv := FV3) (m := y6.2) tZ_119 (fun _ => rAgg (rld rfl)) (fun _ => .ren (.dat rfl))) <| .keep rfl rfl <| .nil) rfl rfl (.dat rfl)) ?_
         refine R_q _ rfl (v_not (ov rfl)) ?_
         refine R_nil ?_
         refine T_keep (kc 10 rfl <| kc 11 rfl <| kc 67 rfl <| kc 68 rfl <| kc 69 rfl <| kc 76 rfl <| kc 77 rfl <| kc 78 rfl <| kc 87 rfl <| kn) rfl ?_
         refine T_if h rfl (fun b87 h => ?_) (fun b87 h => ?_)
         ·
          refine T_keep (kc 11 rfl <| kn) rfl ?_
          refine T_seq (T_reg ?_)
          refine R_q _ rfl (v_move (ov rfl)) ?_
          refine R_q _ rfl (v_assign (ov rfl)) ?_
          refine R_q _ rfl (v_assign (ov rfl)) ?_
          refine R_nil ?_
          rw [lx h] at ho4
          replace h := ho4
          rw [lx h] at ho3
          replace h := ho3
          obtain rfl := rt (v := (i3, 5)) h
          refine T_ret (retq ?_ (.two (.tmp rfl (Dat.view (.b rfl))) (.tmp rfl (Dat.view (.b rfl)))))
          rfl
         ·
          refine T_skip ?_
          refine T_keep (kc 10 rfl <| kc 11 rfl <| kc 67 rfl <| kc 68 rfl <| kc 69 rfl <| kc 76 rfl <| kc 77 rfl <| kc 78 rfl <| kn) rfl ?_
          refine T_reg ?_
          refine R_q _ rfl (v_add (ov rfl) (ov rfl) rfl) ?_
          refine R_q _ rfl (v_move (ov rfl)) ?_
          refine R_nil ?_
          exact ⟨(y6.2, (i64 (i4 + 1))), h, Ent.sel [some 0] (sr 10 rfl (.mref _ rfl) <| sd 11 rfl rfl <| sd 67 rfl rfl <| sd 68 rfl rfl <| sd 69 rfl rfl <| sd 76 rfl rfl <| sd 77 rfl rfl <| sd 78 rfl rfl <| sn) (.cons rfl (roMap (fk := FK122) (fv := FV3) (m := y6.2) tZ_119 (fun _ => rAgg (rld rfl)) (fun _ => .ren (.dat rfl))) <| .nil) rfl rfl⟩
        ·
         refine T_exit ?_
         rw [lx h] at ho4
         replace h := ho4
         exact ⟨taken3, h, Ent.sel [some 0] (sr 10 rfl (.mref _ rfl) <| sd 67 rfl rfl <| sd 68 rfl rfl <| sd 69 rfl rfl <| sn) (.cons rfl (roMap (fk := FK122) (fv := FV3) (m := taken3) tZ_119 (fun _ => rAgg (rld rfl)) (fun _ => .ren (.dat rfl))) <| .nil) rfl rfl⟩
       ·
        replace h := elr h
        obtain ⟨taken2, rfl⟩ : ∃ x, x = j := ⟨_, rfl⟩
        replace h := t1i h
        refine t1T ?_
        refine T_reg ?_
        refine R_q _ rfl (v_add (ov rfl) (ov rfl) rfl) ?_
        refine R_q _ rfl (v_move (ov rfl)) ?_
        refine R_nil ?_
        exact ⟨(taken2, (i64 (i3 + 1))), h, Ent.sel [some 0] (sr 10 rfl (.mref _ rfl) <| sd 67 rfl rfl <| sd 68 rfl rfl <| sd 69 rfl rfl <| sn) (.cons rfl (roMap (fk := FK122) (fv := FV3) (m := taken2) tZ_119 (fun _ => rAgg (rld rfl)) (fun _ => .ren (.dat rfl))) <| .nil) rfl rfl⟩
      ·
       refine T_exit ?_
       rw [lx h] at ho3
       replace h := ho3
       exact ⟨(), h, Ent.sel [] (sn) (.nil) rfl rfl⟩
     ·
      replace h := elr h
      cases j
      replace h := t0i h
      refine t0T ?_
      refine T_seq (T_reg ?_)
      refine R_q _ rfl (v_assign (ov rfl)) ?_
      refine R_q _ rfl (v_assign (ov rfl)) ?_
      refine R_nil ?_
      obtain rfl := rt (v := ((-1), 0)) h
      refine T_ret (retq ?_ (.two (.tmp rfl (Dat.view (.b rfl))) (.tmp rfl (Dat.view (.b rfl)))))
      rfl

theorem ok_layout_find {m : api_Map} {name : Str} {r : (Unit) ⊕ (api_Param)} (h : layout_find m name = some r) :
  CSpec Try.prog gl0 87 [.agg [.int .i64 m.Version, .sl 43 (List.map R43 m.Params)], .str name] (Sum.elim (fun r => .lit (.pointer none)) (fun r => .rp [.str r.Name, .int .i64 r.Kind, .sl 109 (List.map R109 r.Parts), .int .i64 r.First, .int .i64 r.Every, .int .i64 r.Times, .int .i64 r.Step, .sl 9 (List.map R9 r.Names)] 0) r) := by
 unfold layout_find at h
 replace h := bnd0 h
 refine spec_of (by kernel_rfl) Try.func87 rfl rfl ?_
 intro w0 A
 refine T_seq (T_reg ?_)
 refine R_q _ rfl (v_boxD (cva (ov rfl)) rfl tZ_24 rfl) ?_
 refine R_q _ rfl (v_assign (ov rfl)) ?_
 refine R_nil ?_
 refine T_joinG (fun j => (.inr j)) (t0 ⟨[], []⟩) h (fun h => ?_) (fun j h => ?_)
 ·
  refine T_keep (kc 1 rfl <| kc 2 rfl <| kn) rfl ?_
  refine T_seq (T_reg ?_)
  refine R_q _ rfl (v_fieldR (ov rfl) tF24_1) ?_
  refine R_q _ rfl (v_loadS_r (ov rfl) tS22 rfl) ?_
  refine R_q _ rfl (v_len (slv_sl (ov rfl) tZ_43) tL22 (len_map _ _)) ?_
  refine R_q _ rfl (v_move (ov rfl)) ?_
  refine R_nil ?_
  refine T_block ?_
  obtain ⟨r1, hl1, ho1⟩ := bndL h
  refine T_loopG _ (t1 fun i => ⟨[(1, .str name), (2, .rp [.int .i64 m.Version, .sl 43 (List.map R43 m.Params)] 0), (8, .int .i64 (m.Params.length : Int)), (9, .int .i64 i)], []⟩) _ hl1 (Ent.sel [] (sd 1 rfl rfl <| sd 2 rfl rfl <| sd 8 rfl rfl <| sd 9 rfl rfl <| sn) (.nil) rfl rfl) (fun n1 s1 h => ?_)
  obtain ⟨i, rfl⟩ : ∃ x, x = s1 := ⟨_, rfl⟩
  replace h := t1i h
  refine t1T ?_
  unfold layout_find_L1 at h
  refine T_seq (T_reg ?_)
  refine R_q _ rfl (v_lss (ov rfl) (ov rfl)) ?_
  refine R_nil ?_
  refine T_seq ?_
  refine T_if h rfl (fun b10 h => ?_) (fun b10 h => ?_)
  ·
   refine T_skip ?_
   refine T_seq ?_
   refine T_block ?_
   refine T_keep (kc 1 rfl <| kc 2 rfl <| kc 8 rfl <| kc 9 rfl <| kn) rfl ?_
   refine T_seq (T_reg ?_)
   refine R_q _ rfl (v_move (ov rfl)) ?_
   refine R_q _ rfl (v_assign (ov rfl)) ?_
   refine R_nil ?_
   refine T_keep (kc 1 rfl <| kc 2 rfl <| kc 5 rfl <| kc 8 rfl <| kc 9 rfl <| kn) rfl ?_
   refine T_seq (T_reg ?_)
   refine R_q _ rfl (v_fieldR (ov rfl) tF24_1) ?_
   refine R_q _ rfl (v_loadS_r (ov rfl) tS22 rfl) ?_
   refine R_q _ rfl (v_move (ov rfl)) ?_
   obtain ⟨x, h_x, h⟩ := bnd h
   refine R_q _ rfl (v_ixSG (ov rfl) (ov rfl) tL22 h_x) ?_
   refine R_q _ rfl (v_fieldR (ov rfl) tF43_0) ?_
   refine R_q _ rfl (v_loadS_r (ov rfl) tS9 rfl) ?_
   refine R_q _ rfl (v_move (ov rfl)) ?_
   refine R_q _ rfl (v_eqlStr (ov rfl) (ov rfl)) ?_
   refine R_nil ?_
   refine T_keep (kc 1 rfl <| kc 2 rfl <| kc 5 rfl <| kc 8 rfl <| kc 9 rfl <| kc 19 rfl <| kn) rfl ?_
   refine T_if h rfl (fun b19 h => ?_) (fun b19 h => ?_)
   ·
    refine T_keep (kc 2 rfl <| kc 5 rfl <| kn) rfl ?_
    refine T_seq (T_reg ?_)
    refine R_q _ rfl (v_fieldR (ov rfl) tF24_1) ?_
    refine R_q _ rfl (v_loadS_r (ov rfl) tS22 rfl) ?_
    refine R_q _ rfl (v_move (ov rfl)) ?_
    obtain ⟨x2, h_x2, h⟩ := bnd h
    refine R_q _ rfl (v_ixSG (ov rfl) (ov rfl) tL22 h_x2) ?_
    refine R_q _ rfl (v_assign (ov rfl)) ?_
    refine R_nil ?_
    rw [lx h] at ho1
    replace h := ho1
    obtain rfl := rt (v := (Sum.inr x2)) h
    refine T_ret (retq ?_ (.one (.tmp rfl (Dat.view (.b rfl)))))
    rfl
   ·
    refine T_skip ?_
    refine T_keep (kc 1 rfl <| kc 2 rfl <| kc 8 rfl <| kc 9 rfl <| kn) rfl ?_
    refine T_reg ?_
    refine R_q _ rfl (v_add (ov rfl) (ov rfl) rfl) ?_
    refine R_q _ rfl (v_move (ov rfl)) ?_
    refine R_nil ?_
    exact ⟨(i64 (i + 1)), h, Ent.sel [] (sd 1 rfl rfl <| sd 2 rfl rfl <| sd 8 rfl rfl <| sd 9 rfl rfl <| sn) (.nil) rfl rfl⟩
  ·
   refine T_exit ?_
   rw [lx h] at ho1
   replace h := ho1
   exact ⟨(), h, Ent.sel [] (sn) (.nil) rfl rfl⟩
 ·
  replace h := elr h
  cases j
  replace h := t0i h
  refine t0T ?_
  refine T_seq (T_reg ?_)
  refine R_q _ rfl (v_assign (ov rfl)) ?_
  refine R_nil ?_
  obtain rfl := rt (v := (Sum.inl ())) h
  refine T_ret (retq ?_ (.one (.tmp rfl (Dat.view (.b rfl)))))
  rfl
theorem ok_layout_find_nil {m : api_Map} {name : Str} {r : Unit} (h : layout_find m name = some (.inl r)) :
  CSpec Try.prog gl0 87 [.agg [.int .i64 m.Version, .sl 43 (List.map R43 m.Params)], .str name] (.lit (.pointer none)) := ok_layout_find h
theorem ok_layout_find_ptr {m : api_Map} {name : Str} {r : api_Param} (h : layout_find m name = some (.inr r)) :
  CSpec Try.prog gl0 87 [.agg [.int .i64 m.Version, .sl 43 (List.map R43 m.Params)], .str name] (.rp [.str r.Name, .int .i64 r.Kind, .sl 109 (List.map R109 r.Parts), .int .i64 r.First, .int .i64 r.Every, .int .i64 r.Times, .int .i64 r.Step, .sl 9 (List.map R9 r.Names)] 0) := ok_layout_find h

theorem ok_clone109 {xs r : List api_Part} (h : clone xs = some r) :
  CSpec Try.prog gl0 131 [.sl 109 (List.map R109 xs)] (.sl 109 (List.map R109 r)) := by
 have h2 : app [] xs = some r := h
 refine spec_of (by kernel_rfl) Try.func131 rfl rfl ?_
 intro w0 A
 refine T_seq (T_reg ?_)
 refine R_q _ rfl (v_assign (ov rfl)) ?_
 refine R_nil ?_
 refine T_seq (T_seq (T_reg ?_))
 refine R_q _ rfl (v_move (ov rfl)) ?_
 refine R_eqnil (ov rfl) tIsl40 rfl (fun b hb => ?_)
 refine R_nil ?_
 refine T_cond rfl (fun hb2 => ?_) (fun hb2 => ?_)
 ·
  obtain rfl : xs = [] := by simpa using hb hb2
  obtain rfl : r = [] := by simpa [app] using h2.symm
  refine T_seq (T_reg ?_)
  refine R_q _ rfl (v_assign (ov rfl)) ?_
  refine R_nil ?_
  refine T_ret (retq rfl (.one (.tmp rfl (View.nils _))))
 ·
  refine T_skip ?_
  refine T_seq (T_reg ?_)
  refine R_w _ _ rfl (w_litG (r := 0) (xs := []) (f := R109) rfl tL40 .nil rfl rfl rfl) ?_
  refine R_q _ rfl (v_move (ov rfl)) ?_
  refine R_w _ _ rfl (w_appendZ (ov rfl) (slv_sl (ov rfl) tZ_109) tL40 rfl rfl (fun _ => cell1_all rfl) rfl h2) ?_
  refine R_q _ rfl (v_assign (ov rfl)) ?_
  refine R_nil ?_
  refine T_ret (retq rfl (.one (.tmp rfl (View.ownM rfl rfl D109))))

theorem ok_clone9 {xs r : List Str} (h : clone xs = some r) :
  CSpec Try.prog gl0 132 [.sl 9 (List.map R9 xs)] (.sl 9 (List.map R9 r)) := by
 have h2 : app [] xs = some r := h
 refine spec_of (by kernel_rfl) Try.func132 rfl rfl ?_
 intro w0 A
 refine T_seq (T_reg ?_)
 refine R_q _ rfl (v_assign (ov rfl)) ?_
 refine R_nil ?_
 refine T_seq (T_seq (T_reg ?_))
 refine R_q _ rfl (v_move (ov rfl)) ?_
 refine R_eqnil (ov rfl) tIsl41 rfl (fun b hb => ?_)
 refine R_nil ?_
 refine T_cond rfl (fun hb2 => ?_) (fun hb2 => ?_)
 ·
  obtain rfl : xs = [] := by simpa using hb hb2
  obtain rfl : r = [] := by simpa [app] using h2.symm
  refine T_seq (T_reg ?_)
  refine R_q _ rfl (v_assign (ov rfl)) ?_
  refine R_nil ?_
  refine T_ret (retq rfl (.one (.tmp rfl (View.nils _))))
 ·
  refine T_skip ?_
  refine T_seq (T_reg ?_)
  refine R_w _ _ rfl (w_litG (r := 0) (xs := []) (f := R9) rfl tL41 .nil rfl rfl rfl) ?_
  refine R_q _ rfl (v_move (ov rfl)) ?_
  refine R_w _ _ rfl (w_appendZ (ov rfl) (slv_sl (ov rfl) tZ_9) tL41 rfl rfl (fun _ => cell1_all rfl) rfl h2) ?_
  refine R_q _ rfl (v_assign (ov rfl)) ?_
  refine R_nil ?_
  refine T_ret (retq rfl (.one (.tmp rfl (View.ownM rfl rfl D9))))

theorem ok_layout_copyParam {p : api_Param} {r : api_Param} (h : layout_copyParam p = some r) :
  CSpec Try.prog gl0 96 [.agg [.str p.Name, .int .i64 p.Kind, .sl 109 (List.map R109 p.Parts), .int .i64 p.First, .int .i64 p.Every, .int .i64 p.Times, .int .i64 p.Step, .sl 9 (List.map R9 p.Names)]] (.agg [.str r.Name, .int .i64 r.Kind, .sl 109 (List.map R109 r.Parts), .int .i64 r.First, .int .i64 r.Every, .int .i64 r.Times, .int .i64 r.Step, .sl 9 (List.map R9 r.Names)]) := by
 unfold layout_copyParam at h
 replace h := bnd0 h
 refine spec_of (by kernel_rfl) Try.func96 rfl rfl ?_
 intro w0 A
 refine T_seq (T_reg ?_)
 refine R_w _ _ rfl (w_box 0 rfl (ov rfl) tA43 rfl) ?_
 refine R_w _ _ rfl (w_alloc (row := [_, _, _, _, _, _, _, _]) 1 rfl tZ43 rfl tZ_43) ?_
 refine R_nil ?_
 refine T_keep (kc 1 rfl <| kc 2 rfl <| kn) rfl ?_
 refine T_seq (T_draw (cw := md0) (by kernel_rfl) ?_)
 refine D_q0 0 _ rfl (by kernel_rfl) rfl rfl (v_fieldP (ov rfl) rfl rfl tF43_2) ?_
 refine D_q0 1 _ rfl (by kernel_rfl) rfl rfl (v_loadS (ov rfl) rfl rfl rfl tS40 rfl) ?_
 obtain ⟨y, h_y, h⟩ := bnd h
 refine D_q0 2 _ rfl (by kernel_rfl) rfl rfl (v_call (ok_clone109 h_y) (.cons (ov rfl) (.b rfl) <| .nil)) ?_
 refine D_q0 3 _ rfl (by kernel_rfl) rfl rfl (v_fieldP (ov rfl) rfl rfl tF43_7) ?_
 refine D_q0 4 _ rfl (by kernel_rfl) rfl rfl (v_loadS (ov rfl) rfl rfl rfl tS41 rfl) ?_
 obtain ⟨y2, h_y2, h⟩ := bnd h
 refine D_q0 5 _ rfl (by kernel_rfl) rfl rfl (v_call (ok_clone9 h_y2) (.cons (ov rfl) (.b rfl) <| .nil)) ?_
 refine D_q0 6 _ rfl (by kernel_rfl) rfl rfl (v_fieldP (ov rfl) rfl rfl tF43_2) ?_
 refine D_one 7 _ _ rfl (by kernel_rfl) rfl rfl (fun h => by cases h) (fun h => by cases h) (w_store (ov rfl) (ov rfl) (cells_scal tS40) rfl rfl rfl (Nat.le_of_ble_eq_true rfl) (cell1_all rfl) rfl) ?_
 refine D_q0 8 _ rfl (by kernel_rfl) rfl rfl (v_fieldP (ov rfl) rfl rfl tF43_7) ?_
 refine D_one 9 _ _ rfl (by kernel_rfl) rfl rfl (fun h => by cases h) (fun h => by cases h) (w_store (ov rfl) (ov rfl) (cells_scal tS41) rfl rfl rfl (Nat.le_of_ble_eq_true rfl) (cell1_all rfl) rfl) ?_
 refine D_done (by kernel_rfl) ?_
 refine T_keep (kc 1 rfl <| kc 2 rfl <| kn) rfl ?_
 refine T_seq (T_reg ?_)
 refine R_q _ rfl (v_loadA (ov rfl) rfl rfl rfl tA43 rfl rfl) ?_
 refine R_w _ _ rfl (w_store (ov rfl) (ov rfl) (cells_agg tA43 rfl) rfl rfl rfl (Nat.le_of_ble_eq_true rfl) (cell1_all rfl) rfl) ?_
 refine R_nil ?_
 obtain rfl := rt (v := (api_Param.mk p.Name p.Kind y p.First p.Every p.Times p.Step y2)) h
 refine T_ret (retq ?_ (.one (.agg rfl rfl rfl rfl tA43 rfl rfl (pwB rfl))))
 rfl

theorem ok_layout_Without {m : api_Map} {names : List Str} {r : api_Map × Int} (h : layout_Without m names = some r) :
  CSpec Try.prog gl0 51 [.agg [.int .i64 m.Version, .sl 43 (List.map R43 m.Params)], .sl 9 (List.map R9 names)] (.tuple [.agg [.int .i64 r.1.Version, .sl 43 (List.map R43 r.1.Params)], .int .i64 r.2]) := by
 unfold layout_Without at h
 replace h := bnd0 h
 refine spec_of (by kernel_rfl) Try.func51 rfl rfl ?_
 intro w0 A
 refine T_seq (T_reg ?_)
 refine R_q _ rfl (v_boxD (cva (ov rfl)) rfl tZ_24 rfl) ?_
 refine R_w _ _ rfl (w_alloc (row := [_, _]) 0 rfl tZ24 rfl tZ_24) ?_
 refine R_q _ rfl (v_assign (ov rfl)) ?_
 refine R_nil ?_
 refine T_seq ?_
 refine T_keep (kc 1 rfl <| kc 2 rfl <| kc 4 rfl <| kn) rfl ?_
 refine T_seq (T_reg ?_)
 refine R_q _ rfl (v_loadA_r (ov rfl) tA24 rfl rfl) ?_
 obtain ⟨y, h_y, h⟩ := bnd h
 refine R_q _ rfl (v_call (ok_layout_check h_y) (.cons (ov rfl) (.aggB rfl) <| .nil)) ?_
 refine R_q _ rfl (v_move (ov rfl)) ?_
 refine R_q _ rfl (v_extract (ov rfl) rfl) ?_
 refine R_q _ rfl (v_extract (ov rfl) rfl) ?_
 refine R_q _ rfl (v_assign (ov rfl)) ?_
 refine R_q _ rfl (v_assign (ov rfl)) ?_
 refine R_nil ?_
 refine T_keep (kc 1 rfl <| kc 2 rfl <| kc 4 rfl <| kc 7 rfl <| kn) rfl ?_
 refine T_seq (T_reg ?_)
 refine R_q _ rfl (v_move (ov rfl)) ?_
 refine R_q _ rfl (v_neq (ov rfl) (ov rfl)) ?_
 refine R_nil ?_
 refine T_keep (kc 1 rfl <| kc 2 rfl <| kc 4 rfl <| kc 7 rfl <| kc 19 rfl <| kn) rfl ?_
 refine T_if h rfl (fun b19 h => ?_) (fun b19 h => ?_)
 ·
  refine T_keep (kc 4 rfl <| kc 7 rfl <| kn) rfl ?_
  refine T_seq (T_reg ?_)
  refine R_q _ rfl (v_build (ys := [_, _]) tPL24 tHA24 tZ24 (.nil) rfl) ?_
  refine R_q _ rfl (v_move (ov rfl)) ?_
  refine R_w _ _ rfl (w_store (ov rfl) (ov rfl) (cells_agg tA24 rfl) rfl rfl rfl (Nat.le_of_ble_eq_true rfl) (cell1_all rfl) rfl) ?_
  refine R_q _ rfl (v_assign (ov rfl)) ?_
  refine R_nil ?_
  obtain rfl := rt (v := ((api_Map.mk 0 []), y.2)) h
  refine T_ret (retq ?_ (.two (.agg rfl rfl rfl rfl tA24 rfl rfl (.cons (Dat.view (.b rfl)) <| .cons (View.nils 43) <| .nil)) (.tmp rfl (Dat.view (.b rfl)))))
  rfl
 ·
  refine T_skip ?_
  refine T_joinG (fun j => (.inr j)) (t0 ⟨[(1, .sl 9 (List.map R9 names)), (2, .rp [.int .i64 m.Version, .sl 43 (List.map R43 m.Params)] 0), (4, .ptr 0 1 0 0)], [some ⟨24, [[.int .i64 0, .nils]]⟩]⟩) h (fun h => ?_) (fun j h => ?_)
  ·
   refine T_keep (kc 1 rfl <| kc 2 rfl <| kc 4 rfl <| kn) rfl ?_
   refine T_seq (T_reg ?_)
   refine R_q _ rfl (v_move (ov rfl)) ?_
   refine R_q _ rfl (v_len (slv_sl (ov rfl) tZ_9) tL41 (len_map _ _)) ?_
   refine R_q _ rfl (v_move (ov rfl)) ?_
   refine R_nil ?_
   refine T_block ?_
   obtain ⟨r1, hl1, ho1⟩ := bndL h
   refine T_loopG _ (t1 fun i => ⟨[(1, .sl 9 (List.map R9 names)), (2, .rp [.int .i64 m.Version, .sl 43 (List.map R43 m.Params)] 0), (4, .ptr 0 1 0 0), (22, .sl 9 (List.map R9 names)), (23, .int .i64 (names.length : Int)), (24, .int .i64 i)], [some ⟨24, [[.int .i64 0, .nils]]⟩]⟩) _ hl1 (Ent.sel [some 0] (sd 1 rfl rfl <| sd 2 rfl rfl <| sr 4 rfl (.ptr _ _ _ rfl) <| sd 22 rfl rfl <| sd 23 rfl rfl <| sd 24 rfl rfl <| sn) (.cons rfl (ro1 (by exact tZ_24.symm) (rld rfl)) <| .nil) rfl rfl) (fun n1 s1 h => ?_)
   obtain ⟨i, rfl⟩ : ∃ x, x = s1 := ⟨_, rfl⟩
   replace h := t1i h
   refine t1T ?_
   unfold layout_Without_L1 at h
   refine T_seq (T_reg ?_)
   refine R_q _ rfl (v_lss (ov rfl) (ov rfl)) ?_
   refine R_nil ?_
   refine T_seq ?_
   refine T_if h rfl (fun b25 h => ?_) (fun b25 h => ?_)
   ·
    refine T_skip ?_
    refine T_seq ?_
    refine T_block ?_
    refine T_keep (kc 1 rfl <| kc 2 rfl <| kc 4 rfl <| kc 22 rfl <| kc 23 rfl <| kc 24 rfl <| kn) rfl ?_
    refine T_seq (T_reg ?_)
    obtain ⟨x, h_x, h⟩ := bnd h
    refine R_q _ rfl (v_ixSG (ov rfl) (ov rfl) tL41 h_x) ?_
    refine R_q _ rfl (v_loadS_r (ov rfl) tS9 rfl) ?_
    refine R_q _ rfl (v_assign (ov rfl)) ?_
    refine R_nil ?_
    refine T_keep (kc 1 rfl <| kc 2 rfl <| kc 4 rfl <| kc 9 rfl <| kc 22 rfl <| kc 23 rfl <| kc 24 rfl <| kn) rfl ?_
    refine T_seq (T_reg ?_)
    refine R_q _ rfl (v_loadA_r (ov rfl) tA24 rfl rfl) ?_
    refine R_q _ rfl (v_move (ov rfl)) ?_
    obtain ⟨y2, h_y2, h⟩ := bnd h
    rcases y2 with y2 | y2
    ·
     replace h := ell h
     refine R_q _ rfl (v_call (ok_layout_find_nil h_y2) (.cons (ov rfl) (.aggB rfl) <| .cons (ov rfl) (.b rfl) <| .nil)) ?_
     refine R_q _ rfl (v_eqlNN tPn128 (ov rfl) (ov rfl)) ?_
     refine R_nil ?_
     refine T_keep (kc 1 rfl <| kc 2 rfl <| kc 4 rfl <| kc 22 rfl <| kc 23 rfl <| kc 24 rfl <| kc 31 rfl <| kn) rfl ?_
     refine T_if h rfl (fun b31 h => ?_) (fun b31 h => ?_)
     ·
      refine T_keep (kc 4 rfl <| kn) rfl ?_
      refine T_seq (T_reg ?_)
      refine R_q _ rfl (v_build (ys := [_, _]) tPL24 tHA24 tZ24 (.nil) rfl) ?_
      refine R_w _ _ rfl (w_store (ov rfl) (ov rfl) (cells_agg tA24 rfl) rfl rfl rfl (Nat.le_of_ble_eq_true rfl) (cell1_all rfl) rfl) ?_
      refine R_q _ rfl (v_assign (ov rfl)) ?_
      refine R_nil ?_
      rw [lx h] at ho1
      replace h := ho1
      obtain rfl := rt (v := ((api_Map.mk 0 []), 4)) h
      refine T_ret (retq ?_ (.two (.agg rfl rfl rfl rfl tA24 rfl rfl (.cons (Dat.view (.b rfl)) <| .cons (View.nils 43) <| .nil)) (.tmp rfl (Dat.view (.b rfl)))))
      rfl
     ·
      refine T_skip ?_
      refine T_keep (kc 1 rfl <| kc 2 rfl <| kc 4 rfl <| kc 22 rfl <| kc 23 rfl <| kc 24 rfl <| kn) rfl ?_
      refine T_reg ?_
      refine R_q _ rfl (v_add (ov rfl) (ov rfl) rfl) ?_
      refine R_q _ rfl (v_move (ov rfl)) ?_
      refine R_nil ?_
      exact ⟨(i64 (i + 1)), h, Ent.sel [some 0] (sd 1 rfl rfl <| sd 2 rfl rfl <| sr 4 rfl (.ptr _ _ _ rfl) <| sd 22 rfl rfl <| sd 23 rfl rfl <| sd 24 rfl rfl <| sn) (.cons rfl (ro1 (by exact tZ_24.symm) (rld rfl)) <| .nil) rfl rfl⟩
    ·
     replace h := elr h
     refine R_q _ rfl (v_call (ok_layout_find_ptr h_y2) (.cons (ov rfl) (.aggB rfl) <| .cons (ov rfl) (.b rfl) <| .nil)) ?_
     refine R_q _ rfl (v_eqlPN tPn128 (ov rfl) (ov rfl)) ?_
     refine R_nil ?_
     refine T_keep (kc 1 rfl <| kc 2 rfl <| kc 4 rfl <| kc 22 rfl <| kc 23 rfl <| kc 24 rfl <| kc 31 rfl <| kn) rfl ?_
     refine T_if h rfl (fun b31 h => ?_) (fun b31 h => ?_)
     ·
      refine T_keep (kc 4 rfl <| kn) rfl ?_
      refine T_seq (T_reg ?_)
      refine R_q _ rfl (v_build (ys := [_, _]) tPL24 tHA24 tZ24 (.nil) rfl) ?_
      refine R_w _ _ rfl (w_store (ov rfl) (ov rfl) (cells_agg tA24 rfl) rfl rfl rfl (Nat.le_of_ble_eq_true rfl) (cell1_all rfl) rfl) ?_
      refine R_q _ rfl (v_assign (ov rfl)) ?_
      refine R_nil ?_
      rw [lx h] at ho1
      replace h := ho1
      obtain rfl := rt (v := ((api_Map.mk 0 []), 4)) h
      refine T_ret (retq ?_ (.two (.agg rfl rfl rfl rfl tA24 rfl rfl (.cons (Dat.view (.b rfl)) <| .cons (View.nils 43) <| .nil)) (.tmp rfl (Dat.view (.b rfl)))))
      rfl
     ·
      refine T_skip ?_
      refine T_keep (kc 1 rfl <| kc 2 rfl <| kc 4 rfl <| kc 22 rfl <| kc 23 rfl <| kc 24 rfl <| kn) rfl ?_
      refine T_reg ?_
      refine R_q _ rfl (v_add (ov rfl) (ov rfl) rfl) ?_
      refine R_q _ rfl (v_move (ov rfl)) ?_
      refine R_nil ?_
      exact ⟨(i64 (i + 1)), h, Ent.sel [some 0] (sd 1 rfl rfl <| sd 2 rfl rfl <| sr 4 rfl (.ptr _ _ _ rfl) <| sd 22 rfl rfl <| sd 23 rfl rfl <| sd 24 rfl rfl <| sn) (.cons rfl (ro1 (by exact tZ_24.symm) (rld rfl)) <| .nil) rfl rfl⟩
   ·
    refine T_exit ?_
    rw [lx h] at ho1
    replace h := ho1
    exact ⟨(), h, Ent.sel [some 0] (sd 1 rfl rfl <| sd 2 rfl rfl <| sr 4 rfl (.ptr _ _ _ rfl) <| sn) (.cons rfl (ro1 (by exact tZ_24.symm) (rld rfl)) <| .nil) rfl rfl⟩
  ·
   replace h := elr h
   cases j
   replace h := t0i h
   refine t0T ?_
   refine T_seq (T_reg ?_)
   refine R_q _ rfl (v_fieldR (ov rfl) tF24_0) ?_
   refine R_q _ rfl (v_loadS_r (ov rfl) tS3 rfl) ?_
   refine R_q _ rfl (v_build (ys := [_, _]) tPL24 tHA24 tZ24 (.cons (cvs (ov rfl) (cell1_b rfl)) <| .nil) rfl) ?_
   refine R_w _ _ rfl (w_alloc (row := [_, _]) 1 rfl tZ24 rfl tZ_24) ?_
   refine R_w _ _ rfl (w_store (ov rfl) (ov rfl) (cells_agg tA24 rfl) rfl rfl rfl (Nat.le_of_ble_eq_true rfl) (cell1_all rfl) rfl) ?_
   refine R_nil ?_
   refine T_joinG id (t1 fun Params => ⟨[(4, .ptr 0 1 0 0), (10, .ptr 1 1 0 0)], [some ⟨24, [[.int .i64 0, .nils]]⟩, some ⟨24, [[.int .i64 m.Version, .own 2 Params.length]]⟩, some ⟨43, List.map R43 Params⟩]⟩) h (fun h => ?_) (fun j h => ?_)
   ·
    refine T_keep (kc 1 rfl <| kc 2 rfl <| kc 4 rfl <| kc 10 rfl <| kn) rfl ?_
    refine T_seq (T_reg ?_)
    refine R_q _ rfl (v_fieldR (ov rfl) tF24_1) ?_
    refine R_q _ rfl (v_loadS_r (ov rfl) tS22 rfl) ?_
    refine R_q _ rfl (v_len (slv_sl (ov rfl) tZ_43) tL22 (len_map _ _)) ?_
    refine R_q _ rfl (v_move (ov rfl)) ?_
    refine R_nil ?_
    refine T_block ?_
    obtain ⟨r2, hl2, ho2⟩ := bndL h
    refine T_loopG _ (t2 fun Params2 i2 => ⟨[(1, .sl 9 (List.map R9 names)), (4, .ptr 0 1 0 0), (10, .ptr 1 1 0 0), (38, .sl 43 (List.map R43 m.Params)), (39, .int .i64 (m.Params.length : Int)), (40, .int .i64 i2)], [some ⟨24, [[.int .i64 0, .nils]]⟩, some ⟨24, [[.int .i64 m.Version, .own 2 Params2.length]]⟩, some ⟨43, List.map R43 Params2⟩]⟩) _ hl2 (Ent.sel [some 0, some 1, none] (sd 1 rfl rfl <| sr 4 rfl (.ptr _ _ _ rfl) <| sr 10 rfl (.ptr _ _ _ rfl) <| sd 38 rfl rfl <| sd 39 rfl rfl <| sd 40 rfl rfl <| sn) (.cons rfl (ro1 (by exact tZ_24.symm) (rld rfl)) <| .cons rfl (ro1 (by exact tZ_24.symm) (rlc (.dat rfl) <| rlc (.row rfl) <| rln)) <| .row 43 <| .nil) rfl rfl) (fun n2 s2 h => ?_)
    obtain ⟨Params2, i2⟩ := s2
    replace h := t2i h
    refine t2T ?_
    unfold layout_Without_L2 at h
    refine T_seq (T_reg ?_)
    refine R_q _ rfl (v_lss (ov rfl) (ov rfl)) ?_
    refine R_nil ?_
    refine T_seq ?_
    refine T_if h rfl (fun b41 h => ?_) (fun b41 h => ?_)
    ·
     refine T_skip ?_
     refine T_seq ?_
     refine T_block ?_
     refine T_keep (kc 1 rfl <| kc 4 rfl <| kc 10 rfl <| kc 38 rfl <| kc 39 rfl <| kc 40 rfl <| kn) rfl ?_
     refine T_seq (T_reg ?_)
     obtain ⟨x2, h_x2, h⟩ := bnd h
     refine R_q _ rfl (v_ixSG (ov rfl) (ov rfl) tL22 h_x2) ?_
     refine R_q _ rfl (v_loadA_r (ov rfl) tA43 rfl rfl) ?_
     refine R_w _ _ rfl (w_alloc (row := [_, _, _, _, _, _, _, _]) 3 rfl tZ43 rfl tZ_43) ?_
     refine R_w _ _ rfl (w_store (ov rfl) (ov rfl) (cells_agg tA43 rfl) rfl rfl rfl (Nat.le_of_ble_eq_true rfl) (cell1_all rfl) rfl) ?_
     refine R_nil ?_
     refine T_keep (kc 1 rfl <| kc 4 rfl <| kc 10 rfl <| kc 12 rfl <| kc 38 rfl <| kc 39 rfl <| kc 40 rfl <| kn) rfl ?_
     refine T_seq (T_reg ?_)
     refine R_q _ rfl (v_move (ov rfl)) ?_
     refine R_q _ rfl (v_fieldP (ov rfl) rfl rfl tF43_0) ?_
     refine R_q _ rfl (v_loadS (ov rfl) rfl rfl rfl tS9 rfl) ?_
     obtain ⟨y3, h_y3, h⟩ := bnd h
     refine R_q _ rfl (v_call (ok_slices_Contains_string_string h_y3) (.cons (ov rfl) (.b rfl) <| .cons (ov rfl) (.b rfl) <| .nil)) ?_
     refine R_q _ rfl (v_not (ov rfl)) ?_
     refine R_nil ?_
     refine T_keep (kc 1 rfl <| kc 4 rfl <| kc 10 rfl <| kc 12 rfl <| kc 38 rfl <| kc 39 rfl <| kc 40 rfl <| kc 48 rfl <| kn) rfl ?_
     refine T_if h rfl (fun b48 h => ?_) (fun b48 h => ?_)
     ·
      refine T_keep (kc 1 rfl <| kc 4 rfl <| kc 10 rfl <| kc 12 rfl <| kc 38 rfl <| kc 39 rfl <| kc 40 rfl <| kn) rfl ?_
      refine T_draw (cw := md0) (by kernel_rfl) ?_
      refine D_q0 0 _ rfl (by kernel_rfl) rfl rfl (v_fieldP (ov rfl) rfl rfl tF24_1) ?_
      refine D_q0 1 _ rfl (by kernel_rfl) rfl rfl (v_loadS (ov rfl) rfl rfl rfl tS22 rfl) ?_
      refine D_q0 2 _ rfl (by kernel_rfl) rfl rfl (v_loadA (ov rfl) rfl rfl rfl tA43 rfl rfl) ?_
      obtain ⟨y4, h_y4, h⟩ := bnd h
      refine D_q0 3 _ rfl (by kernel_rfl) rfl rfl (v_call (ok_layout_copyParam h_y4) (.cons (ov rfl) (.aggB rfl) <| .nil)) ?_
      refine D_q0 4 (.sl 43 (List.map R43 ([y4] : List api_Param))) rfl (by kernel_rfl) rfl rfl (v_lit tL22 (.cons (cva (ov rfl)) rfl (pwD rfl) <| .nil) rfl rfl) ?_
      obtain ⟨l, h_l, h⟩ := bnd h
      refine D_one 5 _ _ rfl (by kernel_rfl) rfl rfl (fun h => by cases h) (fun h => by cases h) (w_appendG (ov rfl) (slv_sl (ov rfl) tZ_43) tL22 rfl rfl rfl (fun _ => cell1_all rfl) rfl h_l) ?_
      refine D_q0 6 _ rfl (by kernel_rfl) rfl rfl (v_fieldP (ov rfl) rfl rfl tF24_1) ?_
      refine D_one 7 _ _ rfl (by kernel_rfl) rfl rfl (fun h => by cases h) (fun h => by cases h) (w_store (ov rfl) (ov rfl) (cells_scal tS22) rfl rfl rfl (Nat.le_of_ble_eq_true rfl) (cell1_all rfl) rfl) ?_
      refine D_done (by kernel_rfl) ?_
      refine T_keep (kc 1 rfl <| kc 4 rfl <| kc 10 rfl <| kc 38 rfl <| kc 39 rfl <| kc 40 rfl <| kn) rfl ?_
      refine T_reg ?_
      refine R_q _ rfl (v_add (ov rfl) (ov rfl) rfl) ?_
      refine R_q _ rfl (v_move (ov rfl)) ?_
      refine R_nil ?_
      exact ⟨(l, (i64 (i2 + 1))), h, Ent.sel [some 0, some 1, some 2] (sd 1 rfl rfl <| sr 4 rfl (.ptr _ _ _ rfl) <| sr 10 rfl (.ptr _ _ _ rfl) <| sd 38 rfl rfl <| sd 39 rfl rfl <| sd 40 rfl rfl <| sn) (.cons rfl (ro1 (by exact tZ_24.symm) (rld rfl)) <| .cons rfl (ro1 (by exact tZ_24.symm) (rlc (.dat rfl) <| rlc (.own _ rfl) <| rln)) <| .cons rfl (roM D43) <| .nil) rfl rfl⟩
     ·
      refine T_skip ?_
      refine T_keep (kc 1 rfl <| kc 4 rfl <| kc 10 rfl <| kc 38 rfl <| kc 39 rfl <| kc 40 rfl <| kn) rfl ?_
      refine T_reg ?_
      refine R_q _ rfl (v_add (ov rfl) (ov rfl) rfl) ?_
      refine R_q _ rfl (v_move (ov rfl)) ?_
      refine R_nil ?_
      exact ⟨(Params2, (i64 (i2 + 1))), h, Ent.sel [some 0, some 1, some 2] (sd 1 rfl rfl <| sr 4 rfl (.ptr _ _ _ rfl) <| sr 10 rfl (.ptr _ _ _ rfl) <| sd 38 rfl rfl <| sd 39 rfl rfl <| sd 40 rfl rfl <| sn) (.cons rfl (ro1 (by exact tZ_24.symm) (rld rfl)) <| .cons rfl (ro1 (by exact tZ_24.symm) (rlc (.dat rfl) <| rlc (.own _ rfl) <| rln)) <| .cons rfl (roM D43) <| .nil) rfl rfl⟩
    ·
     refine T_exit ?_
     rw [lx h] at ho2
     replace h := ho2
     exact ⟨Params2, h, Ent.sel [some 0, some 1, some 2] (sr 4 rfl (.ptr _ _ _ rfl) <| sr 10 rfl (.ptr _ _ _ rfl) <| sn) (.cons rfl (ro1 (by exact tZ_24.symm) (rld rfl)) <| .cons rfl (ro1 (by exact tZ_24.symm) (rlc (.dat rfl) <| rlc (.own _ rfl) <| rln)) <| .cons rfl (roM D43) <| .nil) rfl rfl⟩
   ·
    obtain ⟨Params, rfl⟩ : ∃ x, x = j := ⟨_, rfl⟩
    replace h := t1i h
    refine t1T ?_
    refine T_seq (T_reg ?_)
    refine R_q _ rfl (v_loadA (ov rfl) rfl rfl rfl tA24 rfl rfl) ?_
    refine R_w _ _ rfl (w_store (ov rfl) (ov rfl) (cells_agg tA24 rfl) rfl rfl rfl (Nat.le_of_ble_eq_true rfl) (cell1_all rfl) rfl) ?_
    refine R_q _ rfl (v_assign (ov rfl)) ?_
    refine R_nil ?_
    obtain rfl := rt (v := ((api_Map.mk m.Version Params), 0)) h
    refine T_ret (retq ?_ (.two (.agg rfl rfl rfl rfl tA24 rfl rfl (.cons (Dat.view (.b rfl)) <| .cons (View.ownM rfl rfl D43) <| .nil)) (.tmp rfl (Dat.view (.b rfl)))))
    rfl

theorem ok_ref2_outside {n : Int} {low : Int} {high : Int} {r : Bool} (h : ref2_outside n low high = some r) :
  CSpec Try.prog gl0 64 [.int .i64 n, .int .i64 low, .int .i64 high] (.bool r) := by
 unfold ref2_outside at h
 replace h := bnd0 h
 refine spec_of (by kernel_rfl) Try.func64 rfl rfl ?_
 intro w0 A
 refine T_seq (T_reg ?_)
 refine R_q _ rfl (v_assign (ov rfl)) ?_
 refine R_nil ?_
 refine T_seq (T_reg ?_)
 refine R_q _ rfl (v_move (ov rfl)) ?_
 refine R_q _ rfl (v_move (ov rfl)) ?_
 refine R_q _ rfl (v_lss (ov rfl) (ov rfl)) ?_
 refine R_q _ rfl (v_move (ov rfl)) ?_
 refine R_q _ rfl (.guarded ((decide (n < low)) == false) rfl rfl rfl rfl fun h => v_move (ov rfl)) ?_
 refine R_q _ rfl (.guarded ((decide (n < low)) == false) rfl rfl rfl rfl fun h => v_move (ov rfl)) ?_
 refine R_q _ rfl (.guarded ((decide (n < low)) == false) rfl rfl rfl rfl fun h => v_gtr (ow rfl h) (ow rfl h)) ?_
 refine R_q _ rfl (v_or (ov rfl) (fun hp => ow rfl (gF hp))) ?_
 refine R_q _ rfl (v_assign (ov rfl)) ?_
 refine R_nil ?_
 obtain rfl := rt (v := ((decide (n < low)) || (decide (high < n)))) h
 refine T_ret (retq ?_ (.one (.tmp rfl (Dat.view (.b rfl)))))
 rfl

theorem ok_ref2_IsName {s : Str} {r : Bool} (h : ref2_IsName s = some r) :
  CSpec Try.prog gl0 73 [.str s] (.bool r) := by
 unfold ref2_IsName at h
 replace h := bnd0 h
 refine spec_of (by kernel_rfl) Try.func73 rfl rfl ?_
 intro w0 A
 refine T_seq (T_reg ?_)
 refine R_q _ rfl (v_assign (ov rfl)) ?_
 refine R_nil ?_
 refine T_joinG (fun j => (.inr j)) (t0 ⟨[(0, .str s)], []⟩) h (fun h => ?_) (fun j h => ?_)
 ·
  refine T_keep (kc 0 rfl <| kn) rfl ?_
  refine T_seq (T_reg ?_)
  refine R_q _ rfl (v_assign (ov rfl)) ?_
  refine R_nil ?_
  refine T_block ?_
  obtain ⟨r1, hl1, ho1⟩ := bndL h
  refine T_loopG _ (t1 fun i => ⟨[(0, .str s), (3, .int .i64 i)], []⟩) _ hl1 (Ent.sel [] (sd 0 rfl rfl <| sd 3 rfl rfl <| sn) (.nil) rfl rfl) (fun n1 s1 h => ?_)
  obtain ⟨i, rfl⟩ : ∃ x, x = s1 := ⟨_, rfl⟩
  replace h := t1i h
  refine t1T ?_
  unfold ref2_IsName_L1 at h
  refine T_seq ?_
  refine T_seq (T_reg ?_)
  refine R_q _ rfl (v_move (ov rfl)) ?_
  refine R_q _ rfl (v_move (ov rfl)) ?_
  refine R_q _ rfl (v_lenStr (ov rfl) tStr9 rfl) ?_
  refine R_q _ rfl (v_lss (ov rfl) (ov rfl)) ?_
  refine R_nil ?_
  refine T_keep (kc 0 rfl <| kc 3 rfl <| kc 8 rfl <| kn) rfl ?_
  refine T_if h rfl (fun b8 h => ?_) (fun b8 h => ?_)
  ·
   refine T_skip ?_
   refine T_seq ?_
   refine T_block ?_
   refine T_keep (kc 0 rfl <| kc 3 rfl <| kn) rfl ?_
   refine T_seq (T_reg ?_)
   refine R_q _ rfl (v_move (ov rfl)) ?_
   refine R_q _ rfl (v_move (ov rfl)) ?_
   obtain ⟨b, h_b, h⟩ := bnd h
   refine R_q _ rfl (v_idxStr (ov rfl) (ov rfl) tStr9 h_b) ?_
   refine R_q _ rfl (v_assign (ov rfl)) ?_
   refine R_nil ?_
   refine T_keep (kc 0 rfl <| kc 3 rfl <| kc 4 rfl <| kn) rfl ?_
   refine T_seq (T_reg ?_)
   refine R_q _ rfl (v_move (ov rfl)) ?_
   refine R_q _ rfl (v_geq (ov rfl) (ov rfl)) ?_
   refine R_q _ rfl (v_move (ov rfl)) ?_
   refine R_q _ rfl (.guarded ((decide (97 ≤ b)) == true) rfl rfl rfl rfl fun h => v_move (ov rfl)) ?_
   refine R_q _ rfl (.guarded ((decide (97 ≤ b)) == true) rfl rfl rfl rfl fun h => v_leq (ow rfl h) (ov rfl)) ?_
   refine R_q _ rfl (v_and (ov rfl) (fun hp => ow rfl (gT hp))) ?_
   refine R_q _ rfl (v_move (ov rfl)) ?_
   refine R_q _ rfl (.guarded (((decide (97 ≤ b)) && (decide (b ≤ 122))) == false) rfl rfl rfl rfl fun h => v_move (ov rfl)) ?_
   refine R_q _ rfl (.guarded (((decide (97 ≤ b)) && (decide (b ≤ 122))) == false) rfl rfl rfl rfl fun h => v_gtr (ow rfl h) (ov rfl)) ?_
   refine R_q _ rfl (.guarded (((decide (97 ≤ b)) && (decide (b ≤ 122))) == false) rfl rfl rfl rfl fun h => v_move (ow rfl h)) ?_
   refine R_q _ rfl (.guarded2 ((((decide (97 ≤ b)) && (decide (b ≤ 122))) == false) && ((decide (0 < i)) == true)) rfl rfl rfl rfl fun h => v_move (ov rfl)) ?_
   refine R_q _ rfl (.guarded2 ((((decide (97 ≤ b)) && (decide (b ≤ 122))) == false) && ((decide (0 < i)) == true)) rfl rfl rfl rfl fun h => v_geq (ow rfl h) (ov rfl)) ?_
   refine R_q _ rfl (.guarded2 ((((decide (97 ≤ b)) && (decide (b ≤ 122))) == false) && ((decide (0 < i)) == true)) rfl rfl rfl rfl fun h => v_move (ow rfl h)) ?_
   refine R_q _ rfl (.guarded2 (((((decide (97 ≤ b)) && (decide (b ≤ 122))) == false) && ((decide (0 < i)) == true)) && ((decide (48 ≤ b)) == true)) rfl rfl rfl rfl fun h => v_move (ov rfl)) ?_
   refine R_q _ rfl (.guarded2 (((((decide (97 ≤ b)) && (decide (b ≤ 122))) == false) && ((decide (0 < i)) == true)) && ((decide (48 ≤ b)) == true)) rfl rfl rfl rfl fun h => v_leq (ow rfl h) (ov rfl)) ?_
   refine R_q _ rfl (.guarded2 ((((decide (97 ≤ b)) && (decide (b ≤ 122))) == false) && ((decide (0 < i)) == true)) rfl rfl rfl rfl fun h => v_and (ow rfl h) (fun hp => ow rfl (gA h (gT hp)))) ?_
   refine R_q _ rfl (.guarded2 ((((decide (97 ≤ b)) && (decide (b ≤ 122))) == false) && ((decide (0 < i)) == true)) rfl rfl rfl rfl fun h => v_move (ow rfl h)) ?_
   refine R_q _ rfl (.guarded2 (((((decide (97 ≤ b)) && (decide (b ≤ 122))) == false) && ((decide (0 < i)) == true)) && (((decide (48 ≤ b)) && (decide (b ≤ 57))) == false)) rfl rfl rfl rfl fun h => v_move (ov rfl)) ?_
   refine R_q _ rfl (.guarded2 (((((decide (97 ≤ b)) && (decide (b ≤ 122))) == false) && ((decide (0 < i)) == true)) && (((decide (48 ≤ b)) && (decide (b ≤ 57))) == false)) rfl rfl rfl rfl fun h => v_eql (ow rfl h) (ov rfl)) ?_
   refine R_q _ rfl (.guarded2 ((((decide (97 ≤ b)) && (decide (b ≤ 122))) == false) && ((decide (0 < i)) == true)) rfl rfl rfl rfl fun h => v_or (ow rfl h) (fun hp => ow rfl (gA h (gF hp)))) ?_
   refine R_q _ rfl (.guarded (((decide (97 ≤ b)) && (decide (b ≤ 122))) == false) rfl rfl rfl rfl fun h => v_and (ow rfl h) (fun hp => ow rfl (gA h (gT hp)))) ?_
   refine R_q _ rfl (v_or (ov rfl) (fun hp => ow rfl (gF hp))) ?_
   refine R_q _ rfl (v_not (ov rfl)) ?_
   refine R_nil ?_
   refine T_keep (kc 0 rfl <| kc 3 rfl <| kc 36 rfl <| kn) rfl ?_
   refine T_if h rfl (fun b36 h => ?_) (fun b36 h => ?_)
   ·
    refine T_keep (kn) rfl ?_
    refine T_seq (T_reg ?_)
    refine R_q _ rfl (v_assign (ov rfl)) ?_
    refine R_nil ?_
    rw [lx h] at ho1
    replace h := ho1
    obtain rfl := rt (v := false) h
    refine T_ret (retq ?_ (.one (.tmp rfl (Dat.view (.b rfl)))))
    rfl
   ·
    refine T_skip ?_
    refine T_keep (kc 0 rfl <| kc 3 rfl <| kn) rfl ?_
    refine T_reg ?_
    refine R_q _ rfl (v_move (ov rfl)) ?_
    refine R_q _ rfl (v_add (ov rfl) (ov rfl) rfl) ?_
    refine R_q _ rfl (v_assign (ov rfl)) ?_
    refine R_nil ?_
    exact ⟨(i64 (i + 1)), h, Ent.sel [] (sd 0 rfl rfl <| sd 3 rfl rfl <| sn) (.nil) rfl rfl⟩
  ·
   refine T_exit ?_
   rw [lx h] at ho1
   replace h := ho1
   exact ⟨(), h, Ent.sel [] (sd 0 rfl rfl <| sn) (.nil) rfl rfl⟩
 ·
  replace h := elr h
  cases j
  replace h := t0i h
  refine t0T ?_
  refine T_seq (T_reg ?_)
  refine R_q _ rfl (v_move (ov rfl)) ?_
  refine R_q _ rfl (v_lenStr (ov rfl) tStr9 rfl) ?_
  refine R_q _ rfl (v_geq (ov rfl) (ov rfl)) ?_
  refine R_q _ rfl (v_move (ov rfl)) ?_
  refine R_q _ rfl (.guarded ((decide (1 ≤ (s.length : Int))) == true) rfl rfl rfl rfl fun h => v_move (ov rfl)) ?_
  refine R_q _ rfl (.guarded ((decide (1 ≤ (s.length : Int))) == true) rfl rfl rfl rfl fun h => v_lenStr (ow rfl h) tStr9 rfl) ?_
  refine R_q _ rfl (.guarded ((decide (1 ≤ (s.length : Int))) == true) rfl rfl rfl rfl fun h => v_leq (ow rfl h) (ov rfl)) ?_
  refine R_q _ rfl (v_and (ov rfl) (fun hp => ow rfl (gT hp))) ?_
  refine R_q _ rfl (v_assign (ov rfl)) ?_
  refine R_nil ?_
  obtain rfl := rt (v := ((decide (1 ≤ (s.length : Int))) && (decide ((s.length : Int) ≤ 30)))) h
  refine T_ret (retq ?_ (.one (.tmp rfl (Dat.view (.b rfl)))))
  rfl

theorem ok_ref2_bits {p : api_Param} {r : Int} (h : ref2_bits p = some r) :
  CSpec Try.prog gl0 66 [.agg [.str p.Name, .int .i64 p.Kind, .sl 109 (List.map R109 p.Parts), .int .i64 p.First, .int .i64 p.Every, .int .i64 p.Times, .int .i64 p.Step, .sl 9 (List.map R9 p.Names)]] (.int .i64 r) := by
 unfold ref2_bits at h
 replace h := bnd0 h
 refine spec_of (by kernel_rfl) Try.func66 rfl rfl ?_
 intro w0 A
 refine T_seq (T_reg ?_)
 refine R_q _ rfl (v_boxD (cva (ov rfl)) rfl tZ_43 rfl) ?_
 refine R_q _ rfl (v_assign (ov rfl)) ?_
 refine R_nil ?_
 refine T_keep (kc 1 rfl <| kn) rfl ?_
 refine T_seq (T_reg ?_)
 refine R_q _ rfl (v_assign (ov rfl)) ?_
 refine R_nil ?_
 refine T_joinG id (t1 fun n => ⟨[(3, .int .i64 n)], []⟩) h (fun h => ?_) (fun j h => ?_)
 ·
  refine T_seq (T_reg ?_)
  refine R_q _ rfl (v_fieldR (ov rfl) tF43_2) ?_
  refine R_q _ rfl (v_loadS_r (ov rfl) tS40 rfl) ?_
  refine R_q _ rfl (v_len (slv_sl (ov rfl) tZ_109) tL40 (len_map _ _)) ?_
  refine R_q _ rfl (v_move (ov rfl)) ?_
  refine R_nil ?_
  refine T_block ?_
  obtain ⟨r1, hl1, ho1⟩ := bndL h
  refine T_loopG _ (t2 fun n2 i => ⟨[(3, .int .i64 n2), (7, .sl 109 (List.map R109 p.Parts)), (8, .int .i64 (p.Parts.length : Int)), (9, .int .i64 i)], []⟩) _ hl1 (Ent.sel [] (sd 3 rfl rfl <| sd 7 rfl rfl <| sd 8 rfl rfl <| sd 9 rfl rfl <| sn) (.nil) rfl rfl) (fun n1 s1 h => ?_)
  obtain ⟨n2, i⟩ := s1
  replace h := t2i h
  refine t2T ?_
  unfold ref2_bits_L1 at h
  refine T_seq (T_reg ?_)
  refine R_q _ rfl (v_lss (ov rfl) (ov rfl)) ?_
  refine R_nil ?_
  refine T_seq ?_
  refine T_if h rfl (fun b10 h => ?_) (fun b10 h => ?_)
  ·
   refine T_skip ?_
   refine T_seq ?_
   refine T_block ?_
   refine T_keep (kc 3 rfl <| kc 7 rfl <| kc 8 rfl <| kc 9 rfl <| kn) rfl ?_
   refine T_seq (T_reg ?_)
   obtain ⟨x, h_x, h⟩ := bnd h
   refine R_q _ rfl (v_ixSG (ov rfl) (ov rfl) tL40 h_x) ?_
   refine R_q _ rfl (v_loadA_r (ov rfl) tA109 rfl rfl) ?_
   refine R_w _ _ rfl (w_alloc (row := [_, _, _, _]) 0 rfl tZ109 rfl tZ_109) ?_
   refine R_w _ _ rfl (w_store (ov rfl) (ov rfl) (cells_agg tA109 rfl) rfl rfl rfl (Nat.le_of_ble_eq_true rfl) (cell1_all rfl) rfl) ?_
   refine R_nil ?_
   refine T_keep (kc 3 rfl <| kc 5 rfl <| kc 7 rfl <| kc 8 rfl <| kc 9 rfl <| kn) rfl ?_
   refine T_reg ?_
   refine R_q _ rfl (v_move (ov rfl)) ?_
   refine R_q _ rfl (v_fieldP (ov rfl) rfl rfl tF109_3) ?_
   refine R_q _ rfl (v_loadS (ov rfl) rfl rfl rfl tS3 rfl) ?_
   refine R_q _ rfl (v_add (ov rfl) (ov rfl) rfl) ?_
   refine R_q _ rfl (v_assign (ov rfl)) ?_
   refine R_nil ?_
   refine T_keep (kc 3 rfl <| kc 7 rfl <| kc 8 rfl <| kc 9 rfl <| kn) rfl ?_
   refine T_reg ?_
   refine R_q _ rfl (v_add (ov rfl) (ov rfl) rfl) ?_
   refine R_q _ rfl (v_move (ov rfl)) ?_
   refine R_nil ?_
   exact ⟨((i64 (n2 + x.Bits)), (i64 (i + 1))), h, Ent.sel [] (sd 3 rfl rfl <| sd 7 rfl rfl <| sd 8 rfl rfl <| sd 9 rfl rfl <| sn) (.nil) rfl rfl⟩
  ·
   refine T_exit ?_
   rw [lx h] at ho1
   replace h := ho1
   exact ⟨n2, h, Ent.sel [] (sd 3 rfl rfl <| sn) (.nil) rfl rfl⟩
 ·
  obtain ⟨n, rfl⟩ : ∃ x, x = j := ⟨_, rfl⟩
  replace h := t1i h
  refine t1T ?_
  refine T_seq (T_reg ?_)
  refine R_q _ rfl (v_move (ov rfl)) ?_
  refine R_q _ rfl (v_assign (ov rfl)) ?_
  refine R_nil ?_
  obtain rfl := rt (v := n) h
  refine T_ret (retq ?_ (.one (.tmp rfl (Dat.view (.b rfl)))))
  rfl

theorem ok_ref2_partsFault {p : api_Param} {r : Int} (h : ref2_partsFault p = some r) :
  CSpec Try.prog gl0 74 [.agg [.str p.Name, .int .i64 p.Kind, .sl 109 (List.map R109 p.Parts), .int .i64 p.First, .int .i64 p.Every, .int .i64 p.Times, .int .i64 p.Step, .sl 9 (List.map R9 p.Names)]] (.int .i64 r) := by
 unfold ref2_partsFault at h
 replace h := bnd0 h
 refine spec_of (by kernel_rfl) Try.func74 rfl rfl ?_
 intro w0 A
 refine T_seq (T_reg ?_)
 refine R_q _ rfl (v_boxD (cva (ov rfl)) rfl tZ_43 rfl) ?_
 refine R_q _ rfl (v_assign (ov rfl)) ?_
 refine R_nil ?_
 refine T_seq ?_
 refine T_keep (kc 1 rfl <| kn) rfl ?_
 refine T_seq (T_reg ?_)
 refine R_q _ rfl (v_fieldR (ov rfl) tF43_2) ?_
 refine R_q _ rfl (v_loadS_r (ov rfl) tS40 rfl) ?_
 refine R_q _ rfl (v_len (slv_sl (ov rfl) tZ_109) tL40 (len_map _ _)) ?_
 refine R_q _ rfl (v_eql (ov rfl) (ov rfl)) ?_
 refine R_nil ?_
 refine T_keep (kc 1 rfl <| kc 8 rfl <| kn) rfl ?_
 refine T_if h rfl (fun b8 h => ?_) (fun b8 h => ?_)
 ·
  refine T_keep (kn) rfl ?_
  refine T_seq (T_reg ?_)
  refine R_q _ rfl (v_assign (ov rfl)) ?_
  refine R_nil ?_
  obtain rfl := rt (v := 13) h
  refine T_ret (retq ?_ (.one (.tmp rfl (Dat.view (.b rfl)))))
  rfl
 ·
  refine T_skip ?_
  refine T_seq ?_
  refine T_keep (kc 1 rfl <| kn) rfl ?_
  refine T_seq (T_reg ?_)
  refine R_q _ rfl (v_fieldR (ov rfl) tF43_2) ?_
  refine R_q _ rfl (v_loadS_r (ov rfl) tS40 rfl) ?_
  refine R_q _ rfl (v_len (slv_sl (ov rfl) tZ_109) tL40 (len_map _ _)) ?_
  refine R_q _ rfl (v_gtr (ov rfl) (ov rfl)) ?_
  refine R_nil ?_
  refine T_keep (kc 1 rfl <| kc 12 rfl <| kn) rfl ?_
  refine T_if h rfl (fun b12 h => ?_) (fun b12 h => ?_)
  ·
   refine T_keep (kn) rfl ?_
   refine T_seq (T_reg ?_)
   refine R_q _ rfl (v_assign (ov rfl)) ?_
   refine R_nil ?_
   obtain rfl := rt (v := 3) h
   refine T_ret (retq ?_ (.one (.tmp rfl (Dat.view (.b rfl)))))
   rfl
  ·
   refine T_skip ?_
   refine T_joinG (fun j => (.inr j)) (t0 ⟨[(1, .rp [.str p.Name, .int .i64 p.Kind, .sl 109 (List.map R109 p.Parts), .int .i64 p.First, .int .i64 p.Every, .int .i64 p.Times, .int .i64 p.Step, .sl 9 (List.map R9 p.Names)] 0)], []⟩) h (fun h => ?_) (fun j h => ?_)
   ·
    refine T_keep (kc 1 rfl <| kn) rfl ?_
    refine T_seq (T_reg ?_)
    refine R_q _ rfl (v_fieldR (ov rfl) tF43_2) ?_
    refine R_q _ rfl (v_loadS_r (ov rfl) tS40 rfl) ?_
    refine R_q _ rfl (v_len (slv_sl (ov rfl) tZ_109) tL40 (len_map _ _)) ?_
    refine R_q _ rfl (v_move (ov rfl)) ?_
    refine R_nil ?_
    refine T_block ?_
    obtain ⟨r1, hl1, ho1⟩ := bndL h
    refine T_loopG _ (t1 fun i => ⟨[(1, .rp [.str p.Name, .int .i64 p.Kind, .sl 109 (List.map R109 p.Parts), .int .i64 p.First, .int .i64 p.Every, .int .i64 p.Times, .int .i64 p.Step, .sl 9 (List.map R9 p.Names)] 0), (14, .sl 109 (List.map R109 p.Parts)), (15, .int .i64 (p.Parts.length : Int)), (16, .int .i64 i)], []⟩) _ hl1 (Ent.sel [] (sd 1 rfl rfl <| sd 14 rfl rfl <| sd 15 rfl rfl <| sd 16 rfl rfl <| sn) (.nil) rfl rfl) (fun n1 s1 h => ?_)
    obtain ⟨i, rfl⟩ : ∃ x, x = s1 := ⟨_, rfl⟩
    replace h := t1i h
    refine t1T ?_
    unfold ref2_partsFault_L1 at h
    refine T_seq (T_reg ?_)
    refine R_q _ rfl (v_lss (ov rfl) (ov rfl)) ?_
    refine R_nil ?_
    refine T_seq ?_
    refine T_if h rfl (fun b17 h => ?_) (fun b17 h => ?_)
    ·
     refine T_skip ?_
     refine T_seq ?_
     refine T_block ?_
     refine T_keep (kc 1 rfl <| kc 14 rfl <| kc 15 rfl <| kc 16 rfl <| kn) rfl ?_
     refine T_seq (T_reg ?_)
     obtain ⟨x, h_x, h⟩ := bnd h
     refine R_q _ rfl (v_ixSG (ov rfl) (ov rfl) tL40 h_x) ?_
     refine R_q _ rfl (v_loadA_r (ov rfl) tA109 rfl rfl) ?_
     refine R_w _ _ rfl (w_alloc (row := [_, _, _, _]) 0 rfl tZ109 rfl tZ_109) ?_
     refine R_w _ _ rfl (w_store (ov rfl) (ov rfl) (cells_agg tA109 rfl) rfl rfl rfl (Nat.le_of_ble_eq_true rfl) (cell1_all rfl) rfl) ?_
     refine R_nil ?_
     refine T_keep (kc 1 rfl <| kc 4 rfl <| kc 14 rfl <| kc 15 rfl <| kc 16 rfl <| kn) rfl ?_
     refine T_seq (T_reg ?_)
     refine R_q _ rfl (v_fieldP (ov rfl) rfl rfl tF109_0) ?_
     refine R_q _ rfl (v_loadS (ov rfl) rfl rfl rfl tS3 rfl) ?_
     obtain ⟨y, h_y, h⟩ := bnd h
     refine R_q _ rfl (v_call (ok_ref2_outside h_y) (.cons (ov rfl) (.b rfl) <| .cons (ov rfl) (.b rfl) <| .cons (ov rfl) (.b rfl) <| .nil)) ?_
     refine R_q _ rfl (v_move (ov rfl)) ?_
     refine R_q _ rfl (.guarded (y == false) rfl rfl rfl rfl fun h => v_fieldP (ov rfl) rfl rfl tF109_1) ?_
     refine R_q _ rfl (.guarded (y == false) rfl rfl rfl rfl fun h => v_loadS (ow rfl h) rfl rfl rfl tS3 rfl) ?_
     obtain ⟨y2, h_y2, h⟩ := bnd h
     refine R_q _ rfl (.guarded (y == false) rfl rfl rfl rfl fun h => v_call (ok_ref2_outside (gdT h_y2 h)) (.cons (ow rfl h) (.b rfl) <| .cons (ov rfl) (.b rfl) <| .cons (ov rfl) (.b rfl) <| .nil)) ?_
     refine R_q _ rfl (v_or (ov rfl) (fun hp => ow rfl (gF hp))) ?_
     refine R_q _ rfl (v_move (ov rfl)) ?_
     refine R_q _ rfl (.guarded ((y || y2) == false) rfl rfl rfl rfl fun h => v_fieldP (ov rfl) rfl rfl tF109_2) ?_
     refine R_q _ rfl (.guarded ((y || y2) == false) rfl rfl rfl rfl fun h => v_loadS (ow rfl h) rfl rfl rfl tS3 rfl) ?_
     obtain ⟨y3, h_y3, h⟩ := bnd h
     refine R_q _ rfl (.guarded ((y || y2) == false) rfl rfl rfl rfl fun h => v_call (ok_ref2_outside (gdT h_y3 h)) (.cons (ow rfl h) (.b rfl) <| .cons (ov rfl) (.b rfl) <| .cons (ov rfl) (.b rfl) <| .nil)) ?_
     refine R_q _ rfl (v_or (ov rfl) (fun hp => ow rfl (gF hp))) ?_
     refine R_q _ rfl (v_move (ov rfl)) ?_
     refine R_q _ rfl (.guarded (((y || y2) || y3) == false) rfl rfl rfl rfl fun h => v_fieldP (ov rfl) rfl rfl tF109_3) ?_
     refine R_q _ rfl (.guarded (((y || y2) || y3) == false) rfl rfl rfl rfl fun h => v_loadS (ow rfl h) rfl rfl rfl tS3 rfl) ?_
     refine R_q _ rfl (.guarded (((y || y2) || y3) == false) rfl rfl rfl rfl fun h => v_fieldP (ov rfl) rfl rfl tF109_2) ?_
     refine R_q _ rfl (.guarded (((y || y2) || y3) == false) rfl rfl rfl rfl fun h => v_loadS (ow rfl h) rfl rfl rfl tS3 rfl) ?_
     refine R_q _ rfl (.guarded (((y || y2) || y3) == false) rfl rfl rfl rfl fun h => v_sub (ov rfl) (ow rfl h) rfl) ?_
     obtain ⟨y4, h_y4, h⟩ := bnd h
     refine R_q _ rfl (.guarded (((y || y2) || y3) == false) rfl rfl rfl rfl fun h => v_call (ok_ref2_outside (gdT h_y4 h)) (.cons (ow rfl h) (.b rfl) <| .cons (ov rfl) (.b rfl) <| .cons (ow rfl h) (.b rfl) <| .nil)) ?_
     refine R_q _ rfl (v_or (ov rfl) (fun hp => ow rfl (gF hp))) ?_
     refine R_nil ?_
     refine T_keep (kc 1 rfl <| kc 14 rfl <| kc 15 rfl <| kc 16 rfl <| kc 40 rfl <| kn) rfl ?_
     refine T_if h rfl (fun b40 h => ?_) (fun b40 h => ?_)
     ·
      refine T_keep (kn) rfl ?_
      refine T_seq (T_reg ?_)
      refine R_q _ rfl (v_assign (ov rfl)) ?_
      refine R_nil ?_
      rw [lx h] at ho1
      replace h := ho1
      obtain rfl := rt (v := 9) h
      refine T_ret (retq ?_ (.one (.tmp rfl (Dat.view (.b rfl)))))
      rfl
     ·
      refine T_skip ?_
      refine T_keep (kc 1 rfl <| kc 14 rfl <| kc 15 rfl <| kc 16 rfl <| kn) rfl ?_
      refine T_reg ?_
      refine R_q _ rfl (v_add (ov rfl) (ov rfl) rfl) ?_
      refine R_q _ rfl (v_move (ov rfl)) ?_
      refine R_nil ?_
      exact ⟨(i64 (i + 1)), h, Ent.sel [] (sd 1 rfl rfl <| sd 14 rfl rfl <| sd 15 rfl rfl <| sd 16 rfl rfl <| sn) (.nil) rfl rfl⟩
    ·
     refine T_exit ?_
     rw [lx h] at ho1
     replace h := ho1
     exact ⟨(), h, Ent.sel [] (sd 1 rfl rfl <| sn) (.nil) rfl rfl⟩
   ·
    replace h := elr h
    cases j
    replace h := t0i h
    refine t0T ?_
    refine T_seq ?_
    refine T_seq (T_reg ?_)
    refine R_q _ rfl (v_loadA_r (ov rfl) tA43 rfl rfl) ?_
    obtain ⟨y5, h_y5, h⟩ := bnd h
    refine R_q _ rfl (v_call (ok_ref2_bits h_y5) (.cons (ov rfl) (.aggB rfl) <| .nil)) ?_
    refine R_q _ rfl (v_gtr (ov rfl) (ov rfl)) ?_
    refine R_nil ?_
    refine T_keep (kc 44 rfl <| kn) rfl ?_
    refine T_if h rfl (fun b44 h => ?_) (fun b44 h => ?_)
    ·
     refine T_keep (kn) rfl ?_
     refine T_seq (T_reg ?_)
     refine R_q _ rfl (v_assign (ov rfl)) ?_
     refine R_nil ?_
     obtain rfl := rt (v := 3) h
     refine T_ret (retq ?_ (.one (.tmp rfl (Dat.view (.b rfl)))))
     rfl
    ·
     refine T_skip ?_
     refine T_keep (kn) rfl ?_
     refine T_seq (T_reg ?_)
     refine R_q _ rfl (v_assign (ov rfl)) ?_
     refine R_nil ?_
     obtain rfl := rt (v := 0) h
     refine T_ret (retq ?_ (.one (.tmp rfl (Dat.view (.b rfl)))))
     rfl

theorem ok_ref2_timesFault {p : api_Param} {r : Int} (h : ref2_timesFault p = some r) :
  CSpec Try.prog gl0 75 [.agg [.str p.Name, .int .i64 p.Kind, .sl 109 (List.map R109 p.Parts), .int .i64 p.First, .int .i64 p.Every, .int .i64 p.Times, .int .i64 p.Step, .sl 9 (List.map R9 p.Names)]] (.int .i64 r) := by
 unfold ref2_timesFault at h
 replace h := bnd0 h
 refine spec_of (by kernel_rfl) Try.func75 rfl rfl ?_
 intro w0 A
 refine T_seq (T_reg ?_)
 refine R_q _ rfl (v_boxD (cva (ov rfl)) rfl tZ_43 rfl) ?_
 refine R_q _ rfl (v_assign (ov rfl)) ?_
 refine R_nil ?_
 refine T_joinG (fun j => (.inr j)) (t0 ⟨[(1, .rp [.str p.Name, .int .i64 p.Kind, .sl 109 (List.map R109 p.Parts), .int .i64 p.First, .int .i64 p.Every, .int .i64 p.Times, .int .i64 p.Step, .sl 9 (List.map R9 p.Names)] 0)], []⟩) h (fun h => ?_) (fun j h => ?_)
 ·
  refine T_keep (kc 1 rfl <| kn) rfl ?_
  refine T_seq (T_reg ?_)
  refine R_q _ rfl (v_fieldR (ov rfl) tF43_4) ?_
  refine R_q _ rfl (v_loadS_r (ov rfl) tS3 rfl) ?_
  refine R_nil ?_
  refine T_block ?_
  refine T_seq ?_
  refine T_keep (kc 1 rfl <| kc 6 rfl <| kn) rfl ?_
  refine T_seq (T_reg ?_)
  refine R_q _ rfl (v_eql (ov rfl) (ov rfl)) ?_
  refine R_q _ rfl (v_assign (ov rfl)) ?_
  refine R_nil ?_
  refine T_keep (kc 1 rfl <| kc 6 rfl <| kc 7 rfl <| kn) rfl ?_
  refine T_if h rfl (fun b7 h => ?_) (fun b7 h => ?_)
  ·
   refine T_skip ?_
   refine T_keep (kc 1 rfl <| kc 7 rfl <| kn) rfl ?_
   refine T_if h rfl (fun b7 h => ?_) (fun b7 h => ?_)
   ·
    refine T_skip ?_
    exact ⟨(), h, Ent.sel [] (sd 1 rfl rfl <| sn) (.nil) rfl rfl⟩
   ·
    refine T_keep (kn) rfl ?_
    refine T_seq (T_reg ?_)
    refine R_q _ rfl (v_assign (ov rfl)) ?_
    refine R_nil ?_
    obtain rfl := rt (v := 9) h
    refine T_ret (retq ?_ (.one (.tmp rfl (Dat.view (.b rfl)))))
    rfl
  ·
   refine T_seq (T_reg ?_)
   refine R_q _ rfl (v_eql (ov rfl) (ov rfl)) ?_
   refine R_q _ rfl (v_assign (ov rfl)) ?_
   refine R_nil ?_
   refine T_keep (kc 1 rfl <| kc 6 rfl <| kc 7 rfl <| kn) rfl ?_
   refine T_if h rfl (fun b7 h => ?_) (fun b7 h => ?_)
   ·
    refine T_skip ?_
    refine T_keep (kc 1 rfl <| kc 7 rfl <| kn) rfl ?_
    refine T_if h rfl (fun b7 h => ?_) (fun b7 h => ?_)
    ·
     refine T_skip ?_
     exact ⟨(), h, Ent.sel [] (sd 1 rfl rfl <| sn) (.nil) rfl rfl⟩
    ·
     refine T_keep (kn) rfl ?_
     refine T_seq (T_reg ?_)
     refine R_q _ rfl (v_assign (ov rfl)) ?_
     refine R_nil ?_
     obtain rfl := rt (v := 9) h
     refine T_ret (retq ?_ (.one (.tmp rfl (Dat.view (.b rfl)))))
     rfl
   ·
    refine T_seq (T_reg ?_)
    refine R_q _ rfl (v_eql (ov rfl) (ov rfl)) ?_
    refine R_q _ rfl (v_assign (ov rfl)) ?_
    refine R_nil ?_
    refine T_keep (kc 1 rfl <| kc 6 rfl <| kc 7 rfl <| kn) rfl ?_
    refine T_if h rfl (fun b7 h => ?_) (fun b7 h => ?_)
    ·
     refine T_skip ?_
     refine T_keep (kc 1 rfl <| kc 7 rfl <| kn) rfl ?_
     refine T_if h rfl (fun b7 h => ?_) (fun b7 h => ?_)
     ·
      refine T_skip ?_
      exact ⟨(), h, Ent.sel [] (sd 1 rfl rfl <| sn) (.nil) rfl rfl⟩
     ·
      refine T_keep (kn) rfl ?_
      refine T_seq (T_reg ?_)
      refine R_q _ rfl (v_assign (ov rfl)) ?_
      refine R_nil ?_
      obtain rfl := rt (v := 9) h
      refine T_ret (retq ?_ (.one (.tmp rfl (Dat.view (.b rfl)))))
      rfl
    ·
     refine T_seq (T_reg ?_)
     refine R_q _ rfl (v_eql (ov rfl) (ov rfl)) ?_
     refine R_q _ rfl (v_assign (ov rfl)) ?_
     refine R_nil ?_
     refine T_keep (kc 1 rfl <| kc 6 rfl <| kc 7 rfl <| kn) rfl ?_
     refine T_if h rfl (fun b7 h => ?_) (fun b7 h => ?_)
     ·
      refine T_skip ?_
      refine T_keep (kc 1 rfl <| kc 7 rfl <| kn) rfl ?_
      refine T_if h rfl (fun b7 h => ?_) (fun b7 h => ?_)
      ·
       refine T_skip ?_
       exact ⟨(), h, Ent.sel [] (sd 1 rfl rfl <| sn) (.nil) rfl rfl⟩
      ·
       refine T_keep (kn) rfl ?_
       refine T_seq (T_reg ?_)
       refine R_q _ rfl (v_assign (ov rfl)) ?_
       refine R_nil ?_
       obtain rfl := rt (v := 9) h
       refine T_ret (retq ?_ (.one (.tmp rfl (Dat.view (.b rfl)))))
       rfl
     ·
      refine T_reg ?_
      refine R_q _ rfl (v_eql (ov rfl) (ov rfl)) ?_
      refine R_q _ rfl (v_assign (ov rfl)) ?_
      refine R_nil ?_
      refine T_keep (kc 1 rfl <| kc 7 rfl <| kn) rfl ?_
      refine T_if h rfl (fun b7 h => ?_) (fun b7 h => ?_)
      ·
       refine T_skip ?_
       exact ⟨(), h, Ent.sel [] (sd 1 rfl rfl <| sn) (.nil) rfl rfl⟩
      ·
       refine T_keep (kn) rfl ?_
       refine T_seq (T_reg ?_)
       refine R_q _ rfl (v_assign (ov rfl)) ?_
       refine R_nil ?_
       obtain rfl := rt (v := 9) h
       refine T_ret (retq ?_ (.one (.tmp rfl (Dat.view (.b rfl)))))
       rfl
 ·
  replace h := elr h
  cases j
  replace h := t0i h
  refine t0T ?_
  refine T_seq ?_
  refine T_seq (T_reg ?_)
  refine R_q _ rfl (v_fieldR (ov rfl) tF43_3) ?_
  refine R_q _ rfl (v_loadS_r (ov rfl) tS3 rfl) ?_
  refine R_q _ rfl (v_fieldR (ov rfl) tF43_4) ?_
  refine R_q _ rfl (v_loadS_r (ov rfl) tS3 rfl) ?_
  refine R_q _ rfl (v_sub (ov rfl) (ov rfl) rfl) ?_
  obtain ⟨y, h_y, h⟩ := bnd h
  refine R_q _ rfl (v_call (ok_ref2_outside h_y) (.cons (ov rfl) (.b rfl) <| .cons (ov rfl) (.b rfl) <| .cons (ov rfl) (.b rfl) <| .nil)) ?_
  refine R_q _ rfl (v_move (ov rfl)) ?_
  refine R_q _ rfl (.guarded (y == false) rfl rfl rfl rfl fun h => v_fieldR (ov rfl) tF43_5) ?_
  refine R_q _ rfl (.guarded (y == false) rfl rfl rfl rfl fun h => v_loadS_r (ow rfl h) tS3 rfl) ?_
  obtain ⟨y2, h_y2, h⟩ := bnd h
  refine R_q _ rfl (.guarded (y == false) rfl rfl rfl rfl fun h => v_call (ok_ref2_outside (gdT h_y2 h)) (.cons (ow rfl h) (.b rfl) <| .cons (ov rfl) (.b rfl) <| .cons (ov rfl) (.b rfl) <| .nil)) ?_
  refine R_q _ rfl (v_or (ov rfl) (fun hp => ow rfl (gF hp))) ?_
  refine R_q _ rfl (v_move (ov rfl)) ?_
  refine R_q _ rfl (.guarded ((y || y2) == false) rfl rfl rfl rfl fun h => v_fieldR (ov rfl) tF43_6) ?_
  refine R_q _ rfl (.guarded ((y || y2) == false) rfl rfl rfl rfl fun h => v_loadS_r (ow rfl h) tS3 rfl) ?_
  refine R_q _ rfl (.guarded ((y || y2) == false) rfl rfl rfl rfl fun h => v_lss (ow rfl h) (ov rfl)) ?_
  refine R_q _ rfl (v_or (ov rfl) (fun hp => ow rfl (gF hp))) ?_
  refine R_q _ rfl (v_move (ov rfl)) ?_
  refine R_q _ rfl (.guarded (((y || y2) || (decide (p.Step < 0))) == false) rfl rfl rfl rfl fun h => v_fieldR (ov rfl) tF43_6) ?_
  refine R_q _ rfl (.guarded (((y || y2) || (decide (p.Step < 0))) == false) rfl rfl rfl rfl fun h => v_loadS_r (ow rfl h) tS3 rfl) ?_
  refine R_q _ rfl (.guarded (((y || y2) || (decide (p.Step < 0))) == false) rfl rfl rfl rfl fun h => v_eql (ow rfl h) (ov rfl)) ?_
  refine R_q _ rfl (.guarded (((y || y2) || (decide (p.Step < 0))) == false) rfl rfl rfl rfl fun h => v_fieldR (ov rfl) tF43_5) ?_
  refine R_q _ rfl (.guarded (((y || y2) || (decide (p.Step < 0))) == false) rfl rfl rfl rfl fun h => v_loadS_r (ow rfl h) tS3 rfl) ?_
  refine R_q _ rfl (.guarded (((y || y2) || (decide (p.Step < 0))) == false) rfl rfl rfl rfl fun h => v_eql (ow rfl h) (ov rfl)) ?_
  refine R_q _ rfl (.guarded (((y || y2) || (decide (p.Step < 0))) == false) rfl rfl rfl rfl fun h => tBool_eq .neq (by simp) (ow rfl h) (ow rfl h) tB4) ?_
  refine R_q _ rfl (v_or (ov rfl) (fun hp => ow rfl (gF hp))) ?_
  refine R_nil ?_
  refine T_keep (kc 1 rfl <| kc 37 rfl <| kn) rfl ?_
  refine T_if h rfl (fun b37 h => ?_) (fun b37 h => ?_)
  ·
   refine T_keep (kn) rfl ?_
   refine T_seq (T_reg ?_)
   refine R_q _ rfl (v_assign (ov rfl)) ?_
   refine R_nil ?_
   obtain rfl := rt (v := 9) h
   refine T_ret (retq ?_ (.one (.tmp rfl (Dat.view (.b rfl)))))
   rfl
  ·
   refine T_skip ?_
   refine T_joinG (fun j => (.inr j)) (t0 ⟨[], []⟩) h (fun h => ?_) (fun j h => ?_)
   ·
    refine T_keep (kc 1 rfl <| kn) rfl ?_
    refine T_seq (T_reg ?_)
    refine R_q _ rfl (v_fieldR (ov rfl) tF43_2) ?_
    refine R_q _ rfl (v_loadS_r (ov rfl) tS40 rfl) ?_
    refine R_q _ rfl (v_len (slv_sl (ov rfl) tZ_109) tL40 (len_map _ _)) ?_
    refine R_q _ rfl (v_move (ov rfl)) ?_
    refine R_nil ?_
    refine T_block ?_
    obtain ⟨r1, hl1, ho1⟩ := bndL h
    refine T_loopG _ (t1 fun i => ⟨[(1, .rp [.str p.Name, .int .i64 p.Kind, .sl 109 (List.map R109 p.Parts), .int .i64 p.First, .int .i64 p.Every, .int .i64 p.Times, .int .i64 p.Step, .sl 9 (List.map R9 p.Names)] 0), (39, .sl 109 (List.map R109 p.Parts)), (40, .int .i64 (p.Parts.length : Int)), (41, .int .i64 i)], []⟩) _ hl1 (Ent.sel [] (sd 1 rfl rfl <| sd 39 rfl rfl <| sd 40 rfl rfl <| sd 41 rfl rfl <| sn) (.nil) rfl rfl) (fun n1 s1 h => ?_)
    obtain ⟨i, rfl⟩ : ∃ x, x = s1 := ⟨_, rfl⟩
    replace h := t1i h
    refine t1T ?_
    unfold ref2_timesFault_L1 at h
    refine T_seq (T_reg ?_)
    refine R_q _ rfl (v_lss (ov rfl) (ov rfl)) ?_
    refine R_nil ?_
    refine T_seq ?_
    refine T_if h rfl (fun b42 h => ?_) (fun b42 h => ?_)
    ·
     refine T_skip ?_
     refine T_seq ?_
     refine T_block ?_
     refine T_keep (kc 1 rfl <| kc 39 rfl <| kc 40 rfl <| kc 41 rfl <| kn) rfl ?_
     refine T_seq (T_reg ?_)
     obtain ⟨x, h_x, h⟩ := bnd h
     refine R_q _ rfl (v_ixSG (ov rfl) (ov rfl) tL40 h_x) ?_
     refine R_q _ rfl (v_loadA_r (ov rfl) tA109 rfl rfl) ?_
     refine R_w _ _ rfl (w_alloc (row := [_, _, _, _]) 0 rfl tZ109 rfl tZ_109) ?_
     refine R_w _ _ rfl (w_store (ov rfl) (ov rfl) (cells_agg tA109 rfl) rfl rfl rfl (Nat.le_of_ble_eq_true rfl) (cell1_all rfl) rfl) ?_
     refine R_nil ?_
     refine T_keep (kc 1 rfl <| kc 4 rfl <| kc 39 rfl <| kc 40 rfl <| kc 41 rfl <| kn) rfl ?_
     refine T_seq (T_reg ?_)
     refine R_q _ rfl (v_fieldR (ov rfl) tF43_5) ?_
     refine R_q _ rfl (v_loadS_r (ov rfl) tS3 rfl) ?_
     refine R_q _ rfl (v_gtr (ov rfl) (ov rfl)) ?_
     refine R_q _ rfl (v_move (ov rfl)) ?_
     refine R_q _ rfl (.guarded ((decide (1 < p.Times)) == true) rfl rfl rfl rfl fun h => v_fieldR (ov rfl) tF43_6) ?_
     refine R_q _ rfl (.guarded ((decide (1 < p.Times)) == true) rfl rfl rfl rfl fun h => v_loadS_r (ow rfl h) tS3 rfl) ?_
     refine R_q _ rfl (.guarded ((decide (1 < p.Times)) == true) rfl rfl rfl rfl fun h => v_gtr (ow rfl h) (ov rfl)) ?_
     refine R_q _ rfl (v_and (ov rfl) (fun hp => ow rfl (gT hp))) ?_
     refine R_q _ rfl (v_move (ov rfl)) ?_
     refine R_q _ rfl (.guarded (((decide (1 < p.Times)) && (decide (57 < p.Step))) == false) rfl rfl rfl rfl fun h => v_fieldP (ov rfl) rfl rfl tF109_1) ?_
     refine R_q _ rfl (.guarded (((decide (1 < p.Times)) && (decide (57 < p.Step))) == false) rfl rfl rfl rfl fun h => v_loadS (ow rfl h) rfl rfl rfl tS3 rfl) ?_
     refine R_q _ rfl (.guarded (((decide (1 < p.Times)) && (decide (57 < p.Step))) == false) rfl rfl rfl rfl fun h => v_fieldR (ov rfl) tF43_5) ?_
     refine R_q _ rfl (.guarded (((decide (1 < p.Times)) && (decide (57 < p.Step))) == false) rfl rfl rfl rfl fun h => v_loadS_r (ow rfl h) tS3 rfl) ?_
     refine R_q _ rfl (.guarded (((decide (1 < p.Times)) && (decide (57 < p.Step))) == false) rfl rfl rfl rfl fun h => v_sub (ow rfl h) (ov rfl) rfl) ?_
     refine R_q _ rfl (.guarded (((decide (1 < p.Times)) && (decide (57 < p.Step))) == false) rfl rfl rfl rfl fun h => v_fieldR (ov rfl) tF43_6) ?_
     refine R_q _ rfl (.guarded (((decide (1 < p.Times)) && (decide (57 < p.Step))) == false) rfl rfl rfl rfl fun h => v_loadS_r (ow rfl h) tS3 rfl) ?_
     refine R_q _ rfl (.guarded (((decide (1 < p.Times)) && (decide (57 < p.Step))) == false) rfl rfl rfl rfl fun h => v_mul (ow rfl h) (ow rfl h) rfl) ?_
     refine R_q _ rfl (.guarded (((decide (1 < p.Times)) && (decide (57 < p.Step))) == false) rfl rfl rfl rfl fun h => v_add (ow rfl h) (ow rfl h) rfl) ?_
     refine R_q _ rfl (.guarded (((decide (1 < p.Times)) && (decide (57 < p.Step))) == false) rfl rfl rfl rfl fun h => v_gtr (ow rfl h) (ov rfl)) ?_
     refine R_q _ rfl (v_or (ov rfl) (fun hp => ow rfl (gF hp))) ?_
     refine R_nil ?_
     refine T_keep (kc 1 rfl <| kc 39 rfl <| kc 40 rfl <| kc 41 rfl <| kc 64 rfl <| kn) rfl ?_
     refine T_if h rfl (fun b64 h => ?_) (fun b64 h => ?_)
     ·
      refine T_keep (kn) rfl ?_
      refine T_seq (T_reg ?_)
      refine R_q _ rfl (v_assign (ov rfl)) ?_
      refine R_nil ?_
      rw [lx h] at ho1
      replace h := ho1
      obtain rfl := rt (v := 9) h
      refine T_ret (retq ?_ (.one (.tmp rfl (Dat.view (.b rfl)))))
      rfl
     ·
      refine T_skip ?_
      refine T_keep (kc 1 rfl <| kc 39 rfl <| kc 40 rfl <| kc 41 rfl <| kn) rfl ?_
      refine T_reg ?_
      refine R_q _ rfl (v_add (ov rfl) (ov rfl) rfl) ?_
      refine R_q _ rfl (v_move (ov rfl)) ?_
      refine R_nil ?_
      exact ⟨(i64 (i + 1)), h, Ent.sel [] (sd 1 rfl rfl <| sd 39 rfl rfl <| sd 40 rfl rfl <| sd 41 rfl rfl <| sn) (.nil) rfl rfl⟩
    ·
     refine T_exit ?_
     rw [lx h] at ho1
     replace h := ho1
     exact ⟨(), h, Ent.sel [] (sn) (.nil) rfl rfl⟩
   ·
    replace h := elr h
    cases j
    replace h := t0i h
    refine t0T ?_
    refine T_seq (T_reg ?_)
    refine R_q _ rfl (v_assign (ov rfl)) ?_
    refine R_nil ?_
    obtain rfl := rt (v := 0) h
    refine T_ret (retq ?_ (.one (.tmp rfl (Dat.view (.b rfl)))))
    rfl

theorem ok_ref2_kindFault {p : api_Param} {r : Int} (h : ref2_kindFault p = some r) :
  CSpec Try.prog gl0 76 [.agg [.str p.Name, .int .i64 p.Kind, .sl 109 (List.map R109 p.Parts), .int .i64 p.First, .int .i64 p.Every, .int .i64 p.Times, .int .i64 p.Step, .sl 9 (List.map R9 p.Names)]] (.int .i64 r) := by
 unfold ref2_kindFault at h
 replace h := bnd0 h
 refine spec_of (by kernel_rfl) Try.func76 rfl rfl ?_
 intro w0 A
 refine T_seq (T_reg ?_)
 refine R_q _ rfl (v_boxD (cva (ov rfl)) rfl tZ_43 rfl) ?_
 refine R_q _ rfl (v_assign (ov rfl)) ?_
 refine R_nil ?_
 refine T_keep (kc 1 rfl <| kn) rfl ?_
 refine T_seq (T_reg ?_)
 refine R_q _ rfl (v_loadA_r (ov rfl) tA43 rfl rfl) ?_
 obtain ⟨y, h_y, h⟩ := bnd h
 refine R_q _ rfl (v_call (ok_ref2_bits h_y) (.cons (ov rfl) (.aggB rfl) <| .nil)) ?_
 refine R_q _ rfl (v_assign (ov rfl)) ?_
 refine R_nil ?_
 refine T_seq ?_
 refine T_keep (kc 1 rfl <| kc 3 rfl <| kn) rfl ?_
 refine T_seq (T_reg ?_)
 refine R_q _ rfl (v_fieldR (ov rfl) tF43_1) ?_
 refine R_q _ rfl (v_loadS_r (ov rfl) tS3 rfl) ?_
 refine R_q _ rfl (v_eql (ov rfl) (ov rfl)) ?_
 refine R_q _ rfl (v_move (ov rfl)) ?_
 refine R_q _ rfl (.guarded ((decide (p.Kind = 4)) == true) rfl rfl rfl rfl fun h => v_move (ov rfl)) ?_
 obtain ⟨q, h_q, h⟩ := bnd h
 refine R_q _ rfl (.guarded ((decide (p.Kind = 4)) == true) rfl rfl rfl rfl fun h => v_remG (ow rfl h) (ov rfl) (gdT h_q h)) ?_
 refine R_q _ rfl (.guarded ((decide (p.Kind = 4)) == true) rfl rfl rfl rfl fun h => v_neq (ow rfl h) (ov rfl)) ?_
 refine R_q _ rfl (v_and (ov rfl) (fun hp => ow rfl (gT hp))) ?_
 refine R_q _ rfl (v_move (ov rfl)) ?_
 refine R_q _ rfl (.guarded (((decide (p.Kind = 4)) && (!decide (q = 0))) == false) rfl rfl rfl rfl fun h => v_fieldR (ov rfl) tF43_1) ?_
 refine R_q _ rfl (.guarded (((decide (p.Kind = 4)) && (!decide (q = 0))) == false) rfl rfl rfl rfl fun h => v_loadS_r (ow rfl h) tS3 rfl) ?_
 refine R_q _ rfl (.guarded (((decide (p.Kind = 4)) && (!decide (q = 0))) == false) rfl rfl rfl rfl fun h => v_eql (ow rfl h) (ov rfl)) ?_
 refine R_q _ rfl (.guarded (((decide (p.Kind = 4)) && (!decide (q = 0))) == false) rfl rfl rfl rfl fun h => v_move (ow rfl h)) ?_
 refine R_q _ rfl (.guarded2 ((((decide (p.Kind = 4)) && (!decide (q = 0))) == false) && ((decide (p.Kind = 5)) == true)) rfl rfl rfl rfl fun h => v_move (ov rfl)) ?_
 refine R_q _ rfl (.guarded2 ((((decide (p.Kind = 4)) && (!decide (q = 0))) == false) && ((decide (p.Kind = 5)) == true)) rfl rfl rfl rfl fun h => v_neq (ow rfl h) (ov rfl)) ?_
 refine R_q _ rfl (.guarded (((decide (p.Kind = 4)) && (!decide (q = 0))) == false) rfl rfl rfl rfl fun h => v_and (ow rfl h) (fun hp => ow rfl (gA h (gT hp)))) ?_
 refine R_q _ rfl (v_or (ov rfl) (fun hp => ow rfl (gF hp))) ?_
 refine R_q _ rfl (v_move (ov rfl)) ?_
 refine R_q _ rfl (.guarded ((((decide (p.Kind = 4)) && (!decide (q = 0))) || ((decide (p.Kind = 5)) && (!decide (y = 1)))) == false) rfl rfl rfl rfl fun h => v_fieldR (ov rfl) tF43_1) ?_
 refine R_q _ rfl (.guarded ((((decide (p.Kind = 4)) && (!decide (q = 0))) || ((decide (p.Kind = 5)) && (!decide (y = 1)))) == false) rfl rfl rfl rfl fun h => v_loadS_r (ow rfl h) tS3 rfl) ?_
 refine R_q _ rfl (.guarded ((((decide (p.Kind = 4)) && (!decide (q = 0))) || ((decide (p.Kind = 5)) && (!decide (y = 1)))) == false) rfl rfl rfl rfl fun h => v_eql (ow rfl h) (ov rfl)) ?_
 refine R_q _ rfl (.guarded ((((decide (p.Kind = 4)) && (!decide (q = 0))) || ((decide (p.Kind = 5)) && (!decide (y = 1)))) == false) rfl rfl rfl rfl fun h => v_move (ow rfl h)) ?_
 refine R_q _ rfl (.guarded2 (((((decide (p.Kind = 4)) && (!decide (q = 0))) || ((decide (p.Kind = 5)) && (!decide (y = 1)))) == false) && ((decide (p.Kind = 2)) == false)) rfl rfl rfl rfl fun h => v_fieldR (ov rfl) tF43_1) ?_
 refine R_q _ rfl (.guarded2 (((((decide (p.Kind = 4)) && (!decide (q = 0))) || ((decide (p.Kind = 5)) && (!decide (y = 1)))) == false) && ((decide (p.Kind = 2)) == false)) rfl rfl rfl rfl fun h => v_loadS_r (ow rfl h) tS3 rfl) ?_
 refine R_q _ rfl (.guarded2 (((((decide (p.Kind = 4)) && (!decide (q = 0))) || ((decide (p.Kind = 5)) && (!decide (y = 1)))) == false) && ((decide (p.Kind = 2)) == false)) rfl rfl rfl rfl fun h => v_eql (ow rfl h) (ov rfl)) ?_
 refine R_q _ rfl (.guarded ((((decide (p.Kind = 4)) && (!decide (q = 0))) || ((decide (p.Kind = 5)) && (!decide (y = 1)))) == false) rfl rfl rfl rfl fun h => v_or (ow rfl h) (fun hp => ow rfl (gA h (gF hp)))) ?_
 refine R_q _ rfl (.guarded ((((decide (p.Kind = 4)) && (!decide (q = 0))) || ((decide (p.Kind = 5)) && (!decide (y = 1)))) == false) rfl rfl rfl rfl fun h => v_move (ow rfl h)) ?_
 refine R_q _ rfl (.guarded2 (((((decide (p.Kind = 4)) && (!decide (q = 0))) || ((decide (p.Kind = 5)) && (!decide (y = 1)))) == false) && (((decide (p.Kind = 2)) || (decide (p.Kind = 3))) == true)) rfl rfl rfl rfl fun h => v_move (ov rfl)) ?_
 refine R_q _ rfl (.guarded2 (((((decide (p.Kind = 4)) && (!decide (q = 0))) || ((decide (p.Kind = 5)) && (!decide (y = 1)))) == false) && (((decide (p.Kind = 2)) || (decide (p.Kind = 3))) == true)) rfl rfl rfl rfl fun h => v_eql (ow rfl h) (ov rfl)) ?_
 refine R_q _ rfl (.guarded ((((decide (p.Kind = 4)) && (!decide (q = 0))) || ((decide (p.Kind = 5)) && (!decide (y = 1)))) == false) rfl rfl rfl rfl fun h => v_and (ow rfl h) (fun hp => ow rfl (gA h (gT hp)))) ?_
 refine R_q _ rfl (v_or (ov rfl) (fun hp => ow rfl (gF hp))) ?_
 refine R_nil ?_
 refine T_keep (kc 1 rfl <| kc 3 rfl <| kc 40 rfl <| kn) rfl ?_
 refine T_if h rfl (fun b40 h => ?_) (fun b40 h => ?_)
 ·
  refine T_keep (kn) rfl ?_
  refine T_seq (T_reg ?_)
  refine R_q _ rfl (v_assign (ov rfl)) ?_
  refine R_nil ?_
  obtain rfl := rt (v := 2) h
  refine T_ret (retq ?_ (.one (.tmp rfl (Dat.view (.b rfl)))))
  rfl
 ·
  refine T_skip ?_
  refine T_seq ?_
  refine T_keep (kc 1 rfl <| kc 3 rfl <| kn) rfl ?_
  refine T_seq (T_reg ?_)
  refine R_q _ rfl (v_fieldR (ov rfl) tF43_1) ?_
  refine R_q _ rfl (v_loadS_r (ov rfl) tS3 rfl) ?_
  refine R_q _ rfl (v_neq (ov rfl) (ov rfl)) ?_
  refine R_nil ?_
  refine T_keep (kc 1 rfl <| kc 3 rfl <| kc 43 rfl <| kn) rfl ?_
  refine T_if h rfl (fun b43 h => ?_) (fun b43 h => ?_)
  ·
   refine T_seq ?_
   refine T_keep (kc 1 rfl <| kn) rfl ?_
   refine T_seq (T_reg ?_)
   refine R_q _ rfl (v_fieldR (ov rfl) tF43_7) ?_
   refine R_q _ rfl (v_loadS_r (ov rfl) tS41 rfl) ?_
   refine R_q _ rfl (v_len (slv_sl (ov rfl) tZ_9) tL41 (len_map _ _)) ?_
   refine R_q _ rfl (v_gtr (ov rfl) (ov rfl)) ?_
   refine R_nil ?_
   refine T_keep (kc 47 rfl <| kn) rfl ?_
   refine T_if h rfl (fun b47 h => ?_) (fun b47 h => ?_)
   ·
    refine T_keep (kn) rfl ?_
    refine T_seq (T_reg ?_)
    refine R_q _ rfl (v_assign (ov rfl)) ?_
    refine R_nil ?_
    obtain rfl := rt (v := 2) h
    refine T_ret (retq ?_ (.one (.tmp rfl (Dat.view (.b rfl)))))
    rfl
   ·
    refine T_skip ?_
    refine T_keep (kn) rfl ?_
    refine T_seq (T_reg ?_)
    refine R_q _ rfl (v_assign (ov rfl)) ?_
    refine R_nil ?_
    obtain rfl := rt (v := 0) h
    refine T_ret (retq ?_ (.one (.tmp rfl (Dat.view (.b rfl)))))
    rfl
  ·
   refine T_skip ?_
   refine T_seq ?_
   refine T_keep (kc 1 rfl <| kc 3 rfl <| kn) rfl ?_
   refine T_seq (T_reg ?_)
   refine R_q _ rfl (v_fieldR (ov rfl) tF43_7) ?_
   refine R_q _ rfl (v_loadS_r (ov rfl) tS41 rfl) ?_
   refine R_q _ rfl (v_len (slv_sl (ov rfl) tZ_9) tL41 (len_map _ _)) ?_
   refine R_q _ rfl (v_eql (ov rfl) (ov rfl)) ?_
   refine R_nil ?_
   refine T_keep (kc 1 rfl <| kc 3 rfl <| kc 51 rfl <| kn) rfl ?_
   refine T_if h rfl (fun b51 h => ?_) (fun b51 h => ?_)
   ·
    refine T_keep (kn) rfl ?_
    refine T_seq (T_reg ?_)
    refine R_q _ rfl (v_assign (ov rfl)) ?_
    refine R_nil ?_
    obtain rfl := rt (v := 13) h
    refine T_ret (retq ?_ (.one (.tmp rfl (Dat.view (.b rfl)))))
    rfl
   ·
    refine T_skip ?_
    refine T_seq ?_
    refine T_keep (kc 1 rfl <| kc 3 rfl <| kn) rfl ?_
    refine T_seq (T_draw (cw := md0) (by kernel_rfl) ?_)
    refine D_q0 0 _ rfl (by kernel_rfl) rfl rfl (v_fieldR (ov rfl) tF43_7) ?_
    refine D_q0 1 _ rfl (by kernel_rfl) rfl rfl (v_loadS_r (ov rfl) tS41 rfl) ?_
    refine D_q0 2 _ rfl (by kernel_rfl) rfl rfl (v_len (slv_sl (ov rfl) tZ_9) tL41 (len_map _ _)) ?_
    refine D_q0 3 _ rfl (by kernel_rfl) rfl rfl (v_gtr (ov rfl) (ov rfl)) ?_
    refine D_q0 4 _ rfl (by kernel_rfl) rfl rfl (v_move (ov rfl)) ?_
    refine D_q0 5 _ rfl (by kernel_rfl) rfl rfl (.guarded ((decide (64 < (p.Names.length : Int))) == false) rfl rfl rfl rfl fun h => v_fieldR (ov rfl) tF43_7) ?_
    refine D_q0 6 _ rfl (by kernel_rfl) rfl rfl (.guarded ((decide (64 < (p.Names.length : Int))) == false) rfl rfl rfl rfl fun h => v_loadS_r (ow rfl h) tS41 rfl) ?_
    refine D_q0 7 _ rfl (by kernel_rfl) rfl rfl (.guarded ((decide (64 < (p.Names.length : Int))) == false) rfl rfl rfl rfl fun h => v_len (slv_sl (ow rfl h) tZ_9) tL41 (len_map _ _)) ?_
    refine D_q0 8 _ rfl (by kernel_rfl) rfl rfl (.guarded ((decide (64 < (p.Names.length : Int))) == false) rfl rfl rfl rfl fun h => v_move (ov rfl)) ?_
    obtain ⟨q2, h_q2, h⟩ := bnd h
    refine D_q0 9 _ rfl (by kernel_rfl) rfl rfl (.guarded ((decide (64 < (p.Names.length : Int))) == false) rfl rfl rfl rfl fun h => v_shlG (ov rfl) (ow rfl h) (gdT h_q2 h)) ?_
    refine D_q0 10 _ rfl (by kernel_rfl) rfl rfl (.guarded ((decide (64 < (p.Names.length : Int))) == false) rfl rfl rfl rfl fun h => v_gtr (ow rfl h) (ow rfl h)) ?_
    refine D_q0 11 _ rfl (by kernel_rfl) rfl rfl (v_or (ov rfl) (fun hp => ow rfl (gF hp))) ?_
    refine D_done (by kernel_rfl) ?_
    refine T_keep (kc 1 rfl <| kc 63 rfl <| kn) rfl ?_
    refine T_if h rfl (fun b63 h => ?_) (fun b63 h => ?_)
    ·
     refine T_keep (kn) rfl ?_
     refine T_seq (T_reg ?_)
     refine R_q _ rfl (v_assign (ov rfl)) ?_
     refine R_nil ?_
     obtain rfl := rt (v := 3) h
     refine T_ret (retq ?_ (.one (.tmp rfl (Dat.view (.b rfl)))))
     rfl
    ·
     refine T_skip ?_
     refine T_joinG (fun j => (.inr j)) (t0 ⟨[], []⟩) h (fun h => ?_) (fun j h => ?_)
     ·
      refine T_keep (kc 1 rfl <| kn) rfl ?_
      refine T_seq (T_reg ?_)
      refine R_q _ rfl (v_fieldR (ov rfl) tF43_7) ?_
      refine R_q _ rfl (v_loadS_r (ov rfl) tS41 rfl) ?_
      refine R_q _ rfl (v_len (slv_sl (ov rfl) tZ_9) tL41 (len_map _ _)) ?_
      refine R_q _ rfl (v_move (ov rfl)) ?_
      refine R_nil ?_
      refine T_block ?_
      obtain ⟨r1, hl1, ho1⟩ := bndL h
      refine T_loopG _ (t1 fun i => ⟨[(1, .rp [.str p.Name, .int .i64 p.Kind, .sl 109 (List.map R109 p.Parts), .int .i64 p.First, .int .i64 p.Every, .int .i64 p.Times, .int .i64 p.Step, .sl 9 (List.map R9 p.Names)] 0), (65, .sl 9 (List.map R9 p.Names)), (66, .int .i64 (p.Names.length : Int)), (67, .int .i64 i)], []⟩) _ hl1 (Ent.sel [] (sd 1 rfl rfl <| sd 65 rfl rfl <| sd 66 rfl rfl <| sd 67 rfl rfl <| sn) (.nil) rfl rfl) (fun n1 s1 h => ?_)
      obtain ⟨i, rfl⟩ : ∃ x, x = s1 := ⟨_, rfl⟩
      replace h := t1i h
      refine t1T ?_
      unfold ref2_kindFault_L1 at h
      refine T_seq (T_reg ?_)
      refine R_q _ rfl (v_lss (ov rfl) (ov rfl)) ?_
      refine R_nil ?_
      refine T_seq ?_
      refine T_if h rfl (fun b68 h => ?_) (fun b68 h => ?_)
      ·
       refine T_skip ?_
       refine T_joinG (fun j => (.inr j)) (t0 ⟨[(1, .rp [.str p.Name, .int .i64 p.Kind, .sl 109 (List.map R109 p.Parts), .int .i64 p.First, .int .i64 p.Every, .int .i64 p.Times, .int .i64 p.Step, .sl 9 (List.map R9 p.Names)] 0), (65, .sl 9 (List.map R9 p.Names)), (66, .int .i64 (p.Names.length : Int)), (67, .int .i64 i)], []⟩) h (fun h => ?_) (fun j h => ?_)
       ·
        refine T_block ?_
        refine T_keep (kc 1 rfl <| kc 65 rfl <| kc 66 rfl <| kc 67 rfl <| kn) rfl ?_
        refine T_seq (T_reg ?_)
        refine R_q _ rfl (v_move (ov rfl)) ?_
        obtain ⟨x, h_x, h⟩ := bnd h
        refine R_q _ rfl (v_ixSG (ov rfl) (ov rfl) tL41 h_x) ?_
        refine R_q _ rfl (v_loadS_r (ov rfl) tS9 rfl) ?_
        refine R_q _ rfl (v_assign (ov rfl)) ?_
        refine R_q _ rfl (v_assign (ov rfl)) ?_
        refine R_nil ?_
        refine T_seq ?_
        refine T_keep (kc 1 rfl <| kc 4 rfl <| kc 5 rfl <| kc 65 rfl <| kc 66 rfl <| kc 67 rfl <| kn) rfl ?_
        refine T_seq (T_reg ?_)
        refine R_q _ rfl (v_move (ov rfl)) ?_
        obtain ⟨y2, h_y2, h⟩ := bnd h
        refine R_q _ rfl (v_call (ok_ref2_IsName h_y2) (.cons (ov rfl) (.b rfl) <| .nil)) ?_
        refine R_q _ rfl (v_not (ov rfl)) ?_
        refine R_nil ?_
        refine T_keep (kc 1 rfl <| kc 4 rfl <| kc 5 rfl <| kc 65 rfl <| kc 66 rfl <| kc 67 rfl <| kc 74 rfl <| kn) rfl ?_
        refine T_if h rfl (fun b74 h => ?_) (fun b74 h => ?_)
        ·
         refine T_keep (kn) rfl ?_
         refine T_seq (T_reg ?_)
         refine R_q _ rfl (v_assign (ov rfl)) ?_
         refine R_nil ?_
         rw [lx h] at ho1
         replace h := ho1
         obtain rfl := rt (v := 8) h
         refine T_ret (retq ?_ (.one (.tmp rfl (Dat.view (.b rfl)))))
         rfl
        ·
         refine T_skip ?_
         refine T_keep (kc 1 rfl <| kc 4 rfl <| kc 5 rfl <| kc 65 rfl <| kc 66 rfl <| kc 67 rfl <| kn) rfl ?_
         refine T_seq (T_reg ?_)
         refine R_q _ rfl (v_fieldR (ov rfl) tF43_7) ?_
         refine R_q _ rfl (v_loadS_r (ov rfl) tS41 rfl) ?_
         refine R_q _ rfl (v_move (ov rfl)) ?_
         obtain ⟨l, h_l, h⟩ := bnd h
         refine R_q _ rfl (v_sliceG (ov rfl) tL41 on (oi (ov rfl)) h_l) ?_
         refine R_q _ rfl (v_len (slv_sl (ov rfl) tZ_9) tL41 (len_map _ _)) ?_
         refine R_q _ rfl (v_move (ov rfl)) ?_
         refine R_nil ?_
         refine T_block ?_
         obtain ⟨r2, hl2, ho2⟩ := bndL h
         refine T_loopG _ (t1 fun i2 => ⟨[(1, .rp [.str p.Name, .int .i64 p.Kind, .sl 109 (List.map R109 p.Parts), .int .i64 p.First, .int .i64 p.Every, .int .i64 p.Times, .int .i64 p.Step, .sl 9 (List.map R9 p.Names)] 0), (5, .str x), (65, .sl 9 (List.map R9 p.Names)), (66, .int .i64 (p.Names.length : Int)), (67, .int .i64 i), (78, .sl 9 (List.map R9 l)), (79, .int .i64 (l.length : Int)), (80, .int .i64 i2)], []⟩) _ hl2 (Ent.sel [] (sd 1 rfl rfl <| sd 5 rfl rfl <| sd 65 rfl rfl <| sd 66 rfl rfl <| sd 67 rfl rfl <| sd 78 rfl rfl <| sd 79 rfl rfl <| sd 80 rfl rfl <| sn) (.nil) rfl rfl) (fun n2 s2 h => ?_)
         obtain ⟨i2, rfl⟩ : ∃ x, x = s2 := ⟨_, rfl⟩
         replace h := t1i h
         refine t1T ?_
         unfold ref2_kindFault_L2 at h
         refine T_seq (T_reg ?_)
         refine R_q _ rfl (v_lss (ov rfl) (ov rfl)) ?_
         refine R_nil ?_
         refine T_seq ?_
         refine T_if h rfl (fun b81 h => ?_) (fun b81 h => ?_)
         ·
          refine T_skip ?_
          refine T_seq ?_
          refine T_block ?_
          refine T_keep (kc 1 rfl <| kc 5 rfl <| kc 65 rfl <| kc 66 rfl <| kc 67 rfl <| kc 78 rfl <| kc 79 rfl <| kc 80 rfl <| kn) rfl ?_
          refine T_seq (T_reg ?_)
          obtain ⟨x2, h_x2, h⟩ := bnd h
          refine R_q _ rfl (v_ixSG (ov rfl) (ov rfl) tL41 h_x2) ?_
          refine R_q _ rfl (v_loadS_r (ov rfl) tS9 rfl) ?_
          refine R_q _ rfl (v_assign (ov rfl)) ?_
          refine R_nil ?_
          refine T_keep (kc 1 rfl <| kc 5 rfl <| kc 7 rfl <| kc 65 rfl <| kc 66 rfl <| kc 67 rfl <| kc 78 rfl <| kc 79 rfl <| kc 80 rfl <| kn) rfl ?_
          refine T_seq (T_reg ?_)
          refine R_q _ rfl (v_move (ov rfl)) ?_
          refine R_q _ rfl (v_move (ov rfl)) ?_
          refine R_q _ rfl (v_eqlStr (ov rfl) (ov rfl)) ?_
          refine R_nil ?_
          refine T_keep (kc 1 rfl <| kc 5 rfl <| kc 65 rfl <| kc 66 rfl <| kc 67 rfl <| kc 78 rfl <| kc 79 rfl <| kc 80 rfl <| kc 86 rfl <| kn) rfl ?_
          refine T_if h rfl (fun b86 h => ?_) (fun b86 h => ?_)
          ·
           refine T_keep (kn) rfl ?_
           refine T_seq (T_reg ?_)
           refine R_q _ rfl (v_assign (ov rfl)) ?_
           refine R_nil ?_
           rw [lx h] at ho2
           replace h := ho2
           rw [lx h] at ho1
           replace h := ho1
           obtain rfl := rt (v := 5) h
           refine T_ret (retq ?_ (.one (.tmp rfl (Dat.view (.b rfl)))))
           rfl
          ·
           refine T_skip ?_
           refine T_keep (kc 1 rfl <| kc 5 rfl <| kc 65 rfl <| kc 66 rfl <| kc 67 rfl <| kc 78 rfl <| kc 79 rfl <| kc 80 rfl <| kn) rfl ?_
           refine T_reg ?_
           refine R_q _ rfl (v_add (ov rfl) (ov rfl) rfl) ?_
           refine R_q _ rfl (v_move (ov rfl)) ?_
           refine R_nil ?_
           exact ⟨(i64 (i2 + 1)), h, Ent.sel [] (sd 1 rfl rfl <| sd 5 rfl rfl <| sd 65 rfl rfl <| sd 66 rfl rfl <| sd 67 rfl rfl <| sd 78 rfl rfl <| sd 79 rfl rfl <| sd 80 rfl rfl <| sn) (.nil) rfl rfl⟩
         ·
          refine T_exit ?_
          rw [lx h] at ho2
          replace h := ho2
          exact ⟨(), h, Ent.sel [] (sd 1 rfl rfl <| sd 65 rfl rfl <| sd 66 rfl rfl <| sd 67 rfl rfl <| sn) (.nil) rfl rfl⟩
       ·
        replace h := elr h
        cases j
        replace h := t0i h
        refine t0T ?_
        refine T_reg ?_
        refine R_q _ rfl (v_add (ov rfl) (ov rfl) rfl) ?_
        refine R_q _ rfl (v_move (ov rfl)) ?_
        refine R_nil ?_
        exact ⟨(i64 (i + 1)), h, Ent.sel [] (sd 1 rfl rfl <| sd 65 rfl rfl <| sd 66 rfl rfl <| sd 67 rfl rfl <| sn) (.nil) rfl rfl⟩
      ·
       refine T_exit ?_
       rw [lx h] at ho1
       replace h := ho1
       exact ⟨(), h, Ent.sel [] (sn) (.nil) rfl rfl⟩
     ·
      replace h := elr h
      cases j
      replace h := t0i h
      refine t0T ?_
      refine T_seq (T_reg ?_)
      refine R_q _ rfl (v_assign (ov rfl)) ?_
      refine R_nil ?_
      obtain rfl := rt (v := 0) h
      refine T_ret (retq ?_ (.one (.tmp rfl (Dat.view (.b rfl)))))
      rfl

theorem ok_ref2_cells {p : api_Param} {number : Int} {r : (List api_Cell)} (h : ref2_cells p number = some r) :
  CSpec Try.prog gl0 77 [.agg [.str p.Name, .int .i64 p.Kind, .sl 109 (List.map R109 p.Parts), .int .i64 p.First, .int .i64 p.Every, .int .i64 p.Times, .int .i64 p.Step, .sl 9 (List.map R9 p.Names)], .int .i64 number] (.sl 54 (List.map R54 r)) := by
 unfold ref2_cells at h
 replace h := bnd0 h
 refine spec_of (by kernel_rfl) Try.func77 rfl rfl ?_
 intro w0 A
 refine T_seq (T_reg ?_)
 refine R_q _ rfl (v_boxD (cva (ov rfl)) rfl tZ_43 rfl) ?_
 refine R_q _ rfl (v_assign (ov rfl)) ?_
 refine R_nil ?_
 refine T_keep (kc 1 rfl <| kc 2 rfl <| kn) rfl ?_
 refine T_seq (T_reg ?_)
 refine R_q _ rfl (v_assign (ov rfl)) ?_
 refine R_nil ?_
 refine T_joinG id (t1 fun out => ⟨[(5, .own 0 out.length)], [some ⟨54, List.map R54 out⟩]⟩) h (fun h => ?_) (fun j h => ?_)
 ·
  refine T_seq (T_reg ?_)
  refine R_q _ rfl (v_fieldR (ov rfl) tF43_3) ?_
  refine R_q _ rfl (v_loadS_r (ov rfl) tS3 rfl) ?_
  refine R_q _ rfl (v_assign (ov rfl)) ?_
  refine R_nil ?_
  refine T_block ?_
  obtain ⟨r1, hl1, ho1⟩ := bndL h
  refine T_loopG _ (t2 fun out2 f => ⟨[(1, .int .i64 number), (2, .rp [.str p.Name, .int .i64 p.Kind, .sl 109 (List.map R109 p.Parts), .int .i64 p.First, .int .i64 p.Every, .int .i64 p.Times, .int .i64 p.Step, .sl 9 (List.map R9 p.Names)] 0), (5, .own 0 out2.length), (6, .int .i64 f)], [some ⟨54, List.map R54 out2⟩]⟩) _ hl1 (Ent.sel [none] (sd 1 rfl rfl <| sd 2 rfl rfl <| sr 5 rfl (.row rfl) <| sd 6 rfl rfl <| sn) (.row 54 <| .nil) rfl rfl) (fun n1 s1 h => ?_)
  obtain ⟨out2, f⟩ := s1
  replace h := t2i h
  refine t2T ?_
  unfold ref2_cells_L1 at h
  refine T_seq ?_
  refine T_seq (T_reg ?_)
  refine R_q _ rfl (v_move (ov rfl)) ?_
  refine R_q _ rfl (v_lss (ov rfl) (ov rfl)) ?_
  refine R_nil ?_
  refine T_keep (kc 1 rfl <| kc 2 rfl <| kc 5 rfl <| kc 6 rfl <| kc 17 rfl <| kn) rfl ?_
  refine T_if h rfl (fun b17 h => ?_) (fun b17 h => ?_)
  ·
   refine T_skip ?_
   refine T_joinG id (t1 fun out3 => ⟨[(1, .int .i64 number), (2, .rp [.str p.Name, .int .i64 p.Kind, .sl 109 (List.map R109 p.Parts), .int .i64 p.First, .int .i64 p.Every, .int .i64 p.Times, .int .i64 p.Step, .sl 9 (List.map R9 p.Names)] 0), (5, .own 0 out3.length), (6, .int .i64 f)], [some ⟨54, List.map R54 out3⟩]⟩) h (fun h => ?_) (fun j h => ?_)
   ·
    refine T_block ?_
    refine T_keep (kc 1 rfl <| kc 2 rfl <| kc 5 rfl <| kc 6 rfl <| kn) rfl ?_
    refine T_seq (T_reg ?_)
    refine R_q _ rfl (v_assign (ov rfl)) ?_
    refine R_nil ?_
    refine T_joinG id (t1 fun inside => ⟨[(1, .int .i64 number), (2, .rp [.str p.Name, .int .i64 p.Kind, .sl 109 (List.map R109 p.Parts), .int .i64 p.First, .int .i64 p.Every, .int .i64 p.Times, .int .i64 p.Step, .sl 9 (List.map R9 p.Names)] 0), (5, .own 0 out2.length), (6, .int .i64 f), (7, .bool inside)], [some ⟨54, List.map R54 out2⟩]⟩) h (fun h => ?_) (fun j h => ?_)
    ·
     refine T_seq (T_reg ?_)
     refine R_q _ rfl (v_fieldR (ov rfl) tF43_2) ?_
     refine R_q _ rfl (v_loadS_r (ov rfl) tS40 rfl) ?_
     refine R_q _ rfl (v_len (slv_sl (ov rfl) tZ_109) tL40 (len_map _ _)) ?_
     refine R_q _ rfl (v_move (ov rfl)) ?_
     refine R_nil ?_
     refine T_block ?_
     obtain ⟨r2, hl2, ho2⟩ := bndL h
     refine T_loopG _ (t2 fun inside2 i => ⟨[(1, .int .i64 number), (2, .rp [.str p.Name, .int .i64 p.Kind, .sl 109 (List.map R109 p.Parts), .int .i64 p.First, .int .i64 p.Every, .int .i64 p.Times, .int .i64 p.Step, .sl 9 (List.map R9 p.Names)] 0), (5, .own 0 out2.length), (6, .int .i64 f), (7, .bool inside2), (23, .sl 109 (List.map R109 p.Parts)), (24, .int .i64 (p.Parts.length : Int)), (25, .int .i64 i)], [some ⟨54, List.map R54 out2⟩]⟩) _ hl2 (Ent.sel [some 0] (sd 1 rfl rfl <| sd 2 rfl rfl <| sr 5 rfl (.own _ rfl) <| sd 6 rfl rfl <| sd 7 rfl rfl <| sd 23 rfl rfl <| sd 24 rfl rfl <| sd 25 rfl rfl <| sn) (.cons rfl (roM D54) <| .nil) rfl rfl) (fun n2 s2 h => ?_)
     obtain ⟨inside2, i⟩ := s2
     replace h := t2i h
     refine t2T ?_
     unfold ref2_cells_L2 at h
     refine T_seq (T_reg ?_)
     refine R_q _ rfl (v_lss (ov rfl) (ov rfl)) ?_
     refine R_nil ?_
     refine T_seq ?_
     refine T_if h rfl (fun b26 h => ?_) (fun b26 h => ?_)
     ·
      refine T_skip ?_
      refine T_seq ?_
      refine T_block ?_
      refine T_keep (kc 1 rfl <| kc 2 rfl <| kc 5 rfl <| kc 6 rfl <| kc 7 rfl <| kc 23 rfl <| kc 24 rfl <| kc 25 rfl <| kn) rfl ?_
      refine T_seq (T_reg ?_)
      obtain ⟨x, h_x, h⟩ := bnd h
      refine R_q _ rfl (v_ixSG (ov rfl) (ov rfl) tL40 h_x) ?_
      refine R_q _ rfl (v_loadA_r (ov rfl) tA109 rfl rfl) ?_
      refine R_w _ _ rfl (w_alloc (row := [_, _, _, _]) 1 rfl tZ109 rfl tZ_109) ?_
      refine R_w _ _ rfl (w_store (ov rfl) (ov rfl) (cells_agg tA109 rfl) rfl rfl rfl (Nat.le_of_ble_eq_true rfl) (cell1_all rfl) rfl) ?_
      refine R_nil ?_
      refine T_keep (kc 1 rfl <| kc 2 rfl <| kc 5 rfl <| kc 6 rfl <| kc 7 rfl <| kc 9 rfl <| kc 23 rfl <| kc 24 rfl <| kc 25 rfl <| kn) rfl ?_
      refine T_reg ?_
      refine R_q _ rfl (v_move (ov rfl)) ?_
      refine R_q _ rfl (v_move (ov rfl)) ?_
      refine R_q _ rfl (.guarded (inside2 == true) rfl rfl rfl rfl fun h => v_move (ov rfl)) ?_
      refine R_q _ rfl (.guarded (inside2 == true) rfl rfl rfl rfl fun h => v_fieldP (ov rfl) rfl rfl tF109_0) ?_
      refine R_q _ rfl (.guarded (inside2 == true) rfl rfl rfl rfl fun h => v_loadS (ow rfl h) rfl rfl rfl tS3 rfl) ?_
      refine R_q _ rfl (.guarded (inside2 == true) rfl rfl rfl rfl fun h => v_add (ow rfl h) (ow rfl h) rfl) ?_
      refine R_q _ rfl (.guarded (inside2 == true) rfl rfl rfl rfl fun h => v_lss (ow rfl h) (ov rfl)) ?_
      refine R_q _ rfl (v_and (ov rfl) (fun hp => ow rfl (gT hp))) ?_
      refine R_q _ rfl (v_assign (ov rfl)) ?_
      refine R_nil ?_
      refine T_keep (kc 1 rfl <| kc 2 rfl <| kc 5 rfl <| kc 6 rfl <| kc 7 rfl <| kc 23 rfl <| kc 24 rfl <| kc 25 rfl <| kn) rfl ?_
      refine T_reg ?_
      refine R_q _ rfl (v_add (ov rfl) (ov rfl) rfl) ?_
      refine R_q _ rfl (v_move (ov rfl)) ?_
      refine R_nil ?_
      exact ⟨((inside2 && (decide ((i64 (f + x.Frame)) < 16))), (i64 (i + 1))), h, Ent.sel [some 0] (sd 1 rfl rfl <| sd 2 rfl rfl <| sr 5 rfl (.own _ rfl) <| sd 6 rfl rfl <| sd 7 rfl rfl <| sd 23 rfl rfl <| sd 24 rfl rfl <| sd 25 rfl rfl <| sn) (.cons rfl (roM D54) <| .nil) rfl rfl⟩
     ·
      refine T_exit ?_
      rw [lx h] at ho2
      replace h := ho2
      exact ⟨inside2, h, Ent.sel [some 0] (sd 1 rfl rfl <| sd 2 rfl rfl <| sr 5 rfl (.own _ rfl) <| sd 6 rfl rfl <| sd 7 rfl rfl <| sn) (.cons rfl (roM D54) <| .nil) rfl rfl⟩
    ·
     obtain ⟨inside, rfl⟩ : ∃ x, x = j := ⟨_, rfl⟩
     replace h := t1i h
     refine t1T ?_
     refine T_seq (T_reg ?_)
     refine R_q _ rfl (v_assign (ov rfl)) ?_
     refine R_nil ?_
     refine T_block ?_
     obtain ⟨r3, hl3, ho3⟩ := bndL h
     refine T_loopG _ (t2 fun out4 j => ⟨[(1, .int .i64 number), (2, .rp [.str p.Name, .int .i64 p.Kind, .sl 109 (List.map R109 p.Parts), .int .i64 p.First, .int .i64 p.Every, .int .i64 p.Times, .int .i64 p.Step, .sl 9 (List.map R9 p.Names)] 0), (5, .own 0 out4.length), (6, .int .i64 f), (7, .bool inside), (10, .int .i64 j)], [some ⟨54, List.map R54 out4⟩]⟩) _ hl3 (Ent.sel [some 0] (sd 1 rfl rfl <| sd 2 rfl rfl <| sr 5 rfl (.own _ rfl) <| sd 6 rfl rfl <| sd 7 rfl rfl <| sd 10 rfl rfl <| sn) (.cons rfl (roM D54) <| .nil) rfl rfl) (fun n3 s3 h => ?_)
     obtain ⟨out4, j⟩ := s3
     replace h := t2i h
     refine t2T ?_
     unfold ref2_cells_L3 at h
     refine T_seq ?_
     refine T_seq (T_reg ?_)
     refine R_q _ rfl (v_move (ov rfl)) ?_
     refine R_q _ rfl (v_fieldR (ov rfl) tF43_5) ?_
     refine R_q _ rfl (v_loadS_r (ov rfl) tS3 rfl) ?_
     refine R_q _ rfl (v_lss (ov rfl) (ov rfl)) ?_
     refine R_q _ rfl (v_move (ov rfl)) ?_
     refine R_q _ rfl (.guarded ((decide (j < p.Times)) == true) rfl rfl rfl rfl fun h => v_move (ov rfl)) ?_
     refine R_q _ rfl (v_and (ov rfl) (fun hp => ow rfl (gT hp))) ?_
     refine R_nil ?_
     refine T_keep (kc 1 rfl <| kc 2 rfl <| kc 5 rfl <| kc 6 rfl <| kc 7 rfl <| kc 10 rfl <| kc 44 rfl <| kn) rfl ?_
     refine T_if h rfl (fun b44 h => ?_) (fun b44 h => ?_)
     ·
      refine T_skip ?_
      refine T_seq ?_
      refine T_block ?_
      refine T_keep (kc 1 rfl <| kc 2 rfl <| kc 5 rfl <| kc 6 rfl <| kc 7 rfl <| kc 10 rfl <| kn) rfl ?_
      refine T_seq (T_reg ?_)
      refine R_q _ rfl (v_move (ov rfl)) ?_
      refine R_q _ rfl (v_move (ov rfl)) ?_
      refine R_q _ rfl (v_lenO (ov rfl) rfl rfl tL62) ?_
      refine R_q _ rfl (v_move (ov rfl)) ?_
      refine R_q _ rfl (v_build (ys := [_, _, _, _]) tPL54 tHA54 tZ54 (.cons (cvs (ov rfl) (cell1_b rfl)) <| .cons (cvs (ov rfl) (cell1_b rfl)) <| .cons (cvs (ov rfl) (cell1_b rfl)) <| .nil) rfl) ?_
      refine R_w _ _ rfl (w_alloc (row := [_, _, _, _]) 1 rfl tZ54 rfl tZ_54) ?_
      refine R_w _ _ rfl (w_store (ov rfl) (ov rfl) (cells_agg tA54 rfl) rfl rfl rfl (Nat.le_of_ble_eq_true rfl) (cell1_all rfl) rfl) ?_
      refine R_nil ?_
      refine T_joinG id (t1 fun Places => ⟨[(1, .int .i64 number), (2, .rp [.str p.Name, .int .i64 p.Kind, .sl 109 (List.map R109 p.Parts), .int .i64 p.First, .int .i64 p.Every, .int .i64 p.Times, .int .i64 p.Step, .sl 9 (List.map R9 p.Names)] 0), (5, .own 0 out4.length), (6, .int .i64 f), (7, .bool inside), (10, .int .i64 j), (11, .ptr 1 1 0 0)], [some ⟨54, List.map R54 out4⟩, some ⟨54, [[.int .i64 number, .int .i64 (out4.length : Int), .int .i64 f, .own 2 Places.length]]⟩, some ⟨66, List.map R66 Places⟩]⟩) h (fun h => ?_) (fun j h => ?_)
      ·
       refine T_keep (kc 1 rfl <| kc 2 rfl <| kc 5 rfl <| kc 6 rfl <| kc 7 rfl <| kc 10 rfl <| kc 11 rfl <| kn) rfl ?_
       refine T_seq (T_reg ?_)
       refine R_q _ rfl (v_fieldR (ov rfl) tF43_2) ?_
       refine R_q _ rfl (v_loadS_r (ov rfl) tS40 rfl) ?_
       refine R_q _ rfl (v_len (slv_sl (ov rfl) tZ_109) tL40 (len_map _ _)) ?_
       refine R_q _ rfl (v_move (ov rfl)) ?_
       refine R_nil ?_
       refine T_block ?_
       obtain ⟨r4, hl4, ho4⟩ := bndL h
       refine T_loopG _ (t2 fun Places2 i2 => ⟨[(1, .int .i64 number), (2, .rp [.str p.Name, .int .i64 p.Kind, .sl 109 (List.map R109 p.Parts), .int .i64 p.First, .int .i64 p.Every, .int .i64 p.Times, .int .i64 p.Step, .sl 9 (List.map R9 p.Names)] 0), (5, .own 0 out4.length), (6, .int .i64 f), (7, .bool inside), (10, .int .i64 j), (11, .ptr 1 1 0 0), (53, .sl 109 (List.map R109 p.Parts)), (54, .int .i64 (p.Parts.length : Int)), (55, .int .i64 i2)], [some ⟨54, List.map R54 out4⟩, some ⟨54, [[.int .i64 number, .int .i64 (out4.length : Int), .int .i64 f, .own 2 Places2.length]]⟩, some ⟨66, List.map R66 Places2⟩]⟩) _ hl4 (Ent.sel [some 0, some 1, none] (sd 1 rfl rfl <| sd 2 rfl rfl <| sr 5 rfl (.own _ rfl) <| sd 6 rfl rfl <| sd 7 rfl rfl <| sd 10 rfl rfl <| sr 11 rfl (.ptr _ _ _ rfl) <| sd 53 rfl rfl <| sd 54 rfl rfl <| sd 55 rfl rfl <| sn) (.cons rfl (roM D54) <| .cons rfl (ro1 (by exact tZ_54.symm) (rlc (.dat rfl) <| rlc (.dat rfl) <| rlc (.dat rfl) <| rlc (.row rfl) <| rln)) <| .row 66 <| .nil) rfl rfl) (fun n4 s4 h => ?_)
       obtain ⟨Places2, i2⟩ := s4
       replace h := t2i h
       refine t2T ?_
       unfold ref2_cells_L4 at h
       refine T_seq (T_reg ?_)
       refine R_q _ rfl (v_lss (ov rfl) (ov rfl)) ?_
       refine R_nil ?_
       refine T_seq ?_
       refine T_if h rfl (fun b56 h => ?_) (fun b56 h => ?_)
       ·
        refine T_skip ?_
        refine T_seq ?_
        refine T_block ?_
        refine T_keep (kc 1 rfl <| kc 2 rfl <| kc 5 rfl <| kc 6 rfl <| kc 7 rfl <| kc 10 rfl <| kc 11 rfl <| kc 53 rfl <| kc 54 rfl <| kc 55 rfl <| kn) rfl ?_
        refine T_seq (T_reg ?_)
        obtain ⟨x2, h_x2, h⟩ := bnd h
        refine R_q _ rfl (v_ixSG (ov rfl) (ov rfl) tL40 h_x2) ?_
        refine R_q _ rfl (v_loadA_r (ov rfl) tA109 rfl rfl) ?_
        refine R_w _ _ rfl (w_alloc (row := [_, _, _, _]) 3 rfl tZ109 rfl tZ_109) ?_
        refine R_w _ _ rfl (w_store (ov rfl) (ov rfl) (cells_agg tA109 rfl) rfl rfl rfl (Nat.le_of_ble_eq_true rfl) (cell1_all rfl) rfl) ?_
        refine R_nil ?_
        refine T_keep (kc 1 rfl <| kc 2 rfl <| kc 5 rfl <| kc 6 rfl <| kc 7 rfl <| kc 10 rfl <| kc 11 rfl <| kc 13 rfl <| kc 53 rfl <| kc 54 rfl <| kc 55 rfl <| kn) rfl ?_
        refine T_reg ?_
        refine R_q _ rfl (v_fieldP (ov rfl) rfl rfl tF54_3) ?_
        refine R_q _ rfl (v_loadS (ov rfl) rfl rfl rfl tS52 rfl) ?_
        refine R_q _ rfl (v_move (ov rfl)) ?_
        refine R_q _ rfl (v_fieldP (ov rfl) rfl rfl tF109_0) ?_
        refine R_q _ rfl (v_loadS (ov rfl) rfl rfl rfl tS3 rfl) ?_
        refine R_q _ rfl (v_add (ov rfl) (ov rfl) rfl) ?_
        refine R_q _ rfl (v_fieldP (ov rfl) rfl rfl tF109_1) ?_
        refine R_q _ rfl (v_loadS (ov rfl) rfl rfl rfl tS3 rfl) ?_
        refine R_q _ rfl (v_move (ov rfl)) ?_
        refine R_q _ rfl (v_fieldR (ov rfl) tF43_6) ?_
        refine R_q _ rfl (v_loadS_r (ov rfl) tS3 rfl) ?_
        refine R_q _ rfl (v_mul (ov rfl) (ov rfl) rfl) ?_
        refine R_q _ rfl (v_add (ov rfl) (ov rfl) rfl) ?_
        refine R_q _ rfl (v_fieldP (ov rfl) rfl rfl tF109_2) ?_
        refine R_q _ rfl (v_loadS (ov rfl) rfl rfl rfl tS3 rfl) ?_
        refine R_q _ rfl (v_fieldP (ov rfl) rfl rfl tF109_3) ?_
        refine R_q _ rfl (v_loadS (ov rfl) rfl rfl rfl tS3 rfl) ?_
        refine R_q _ rfl (v_build (ys := [_, _, _, _]) tPL66 tHA66 tZ66 (.cons (cvs (ov rfl) (cell1_b rfl)) <| .cons (cvs (ov rfl) (cell1_b rfl)) <| .cons (cvs (ov rfl) (cell1_b rfl)) <| .cons (cvs (ov rfl) (cell1_b rfl)) <| .nil) rfl) ?_
        refine R_q (.sl 66 (List.map R66 ([(api_Place.mk (i64 (f + x2.Frame)) (i64 (x2.Word + (i64 (j * p.Step)))) x2.Low x2.Bits)] : List api_Place))) rfl (v_lit tL52 (.cons (cva (ov rfl)) rfl (pwD rfl) <| .nil) rfl rfl) ?_
        obtain ⟨l, h_l, h⟩ := bnd h
        refine R_w _ _ rfl (w_appendG (ov rfl) (slv_sl (ov rfl) tZ_66) tL52 rfl rfl rfl (fun _ => cell1_all rfl) rfl h_l) ?_
        refine R_q _ rfl (v_fieldP (ov rfl) rfl rfl tF54_3) ?_
        refine R_w _ _ rfl (w_store (ov rfl) (ov rfl) (cells_scal tS52) rfl rfl rfl (Nat.le_of_ble_eq_true rfl) (cell1_all rfl) rfl) ?_
        refine R_nil ?_
        refine T_keep (kc 1 rfl <| kc 2 rfl <| kc 5 rfl <| kc 6 rfl <| kc 7 rfl <| kc 10 rfl <| kc 11 rfl <| kc 53 rfl <| kc 54 rfl <| kc 55 rfl <| kn) rfl ?_
        refine T_reg ?_
        refine R_q _ rfl (v_add (ov rfl) (ov rfl) rfl) ?_
        refine R_q _ rfl (v_move (ov rfl)) ?_
        refine R_nil ?_
        exact ⟨(l, (i64 (i2 + 1))), h, Ent.sel [some 0, some 1, some 2] (sd 1 rfl rfl <| sd 2 rfl rfl <| sr 5 rfl (.own _ rfl) <| sd 6 rfl rfl <| sd 7 rfl rfl <| sd 10 rfl rfl <| sr 11 rfl (.ptr _ _ _ rfl) <| sd 53 rfl rfl <| sd 54 rfl rfl <| sd 55 rfl rfl <| sn) (.cons rfl (roM D54) <| .cons rfl (ro1 (by exact tZ_54.symm) (rlc (.dat rfl) <| rlc (.dat rfl) <| rlc (.dat rfl) <| rlc (.own _ rfl) <| rln)) <| .cons rfl (roM D66) <| .nil) rfl rfl⟩
       ·
        refine T_exit ?_
        rw [lx h] at ho4
        replace h := ho4
        exact ⟨Places2, h, Ent.sel [some 0, some 1, some 2] (sd 1 rfl rfl <| sd 2 rfl rfl <| sr 5 rfl (.own _ rfl) <| sd 6 rfl rfl <| sd 7 rfl rfl <| sd 10 rfl rfl <| sr 11 rfl (.ptr _ _ _ rfl) <| sn) (.cons rfl (roM D54) <| .cons rfl (ro1 (by exact tZ_54.symm) (rlc (.dat rfl) <| rlc (.dat rfl) <| rlc (.dat rfl) <| rlc (.own _ rfl) <| rln)) <| .cons rfl (roM D66) <| .nil) rfl rfl⟩
      ·
       obtain ⟨Places, rfl⟩ : ∃ x, x = j := ⟨_, rfl⟩
       replace h := t1i h
       refine t1T ?_
       refine T_reg ?_
       refine R_q _ rfl (v_move (ov rfl)) ?_
       refine R_q _ rfl (v_loadA (ov rfl) rfl rfl rfl tA54 rfl rfl) ?_
       refine R_ent (Ent.sel [some 0, some 1, none] (sd 1 rfl rfl <| sd 2 rfl rfl <| sr 5 rfl (.own (r' := 0) _ rfl) <| sd 6 rfl rfl <| sd 7 rfl rfl <| sd 10 rfl rfl <| sr 11 rfl (.ptr (r' := 1) _ _ _ rfl) <| sr 81 rfl (.own (r' := 0) _ rfl) <| sr 82 rfl (rAgg (rlc (.dat rfl) <| rlc (.dat rfl) <| rlc (.dat rfl) <| rlc (frzM rfl rfl rfl D66) <| rln)) <| sn) (.cons rfl (roM D54) <| .cons rfl (ro1 (by exact tZ_54.symm) (rlc (.dat rfl) <| rlc (.dat rfl) <| rlc (.dat rfl) <| rlc (frzM rfl rfl rfl D66) <| rln)) <| .row 66 <| .nil) rfl rfl) ?_
       refine R_q (.sl 54 (List.map R54 ([(api_Cell.mk number (out4.length : Int) f Places)] : List api_Cell))) rfl (v_lit tL62 (.cons (cva (ov rfl)) rfl (pwD rfl) <| .nil) rfl rfl) ?_
       obtain ⟨l2, h_l2, h⟩ := bnd h
       refine R_w _ _ rfl (w_appendG (ov rfl) (slv_sl (ov rfl) tZ_54) tL62 rfl rfl rfl (fun _ => cell1_all rfl) rfl h_l2) ?_
       refine R_q _ rfl (v_assign (ov rfl)) ?_
       refine R_nil ?_
       refine T_keep (kc 1 rfl <| kc 2 rfl <| kc 5 rfl <| kc 6 rfl <| kc 7 rfl <| kc 10 rfl <| kn) rfl ?_
       refine T_reg ?_
       refine R_q _ rfl (v_move (ov rfl)) ?_
       refine R_q _ rfl (v_add (ov rfl) (ov rfl) rfl) ?_
       refine R_q _ rfl (v_assign (ov rfl)) ?_
       refine R_nil ?_
       exact ⟨(l2, (i64 (j + 1))), h, Ent.sel [some 0] (sd 1 rfl rfl <| sd 2 rfl rfl <| sr 5 rfl (.own _ rfl) <| sd 6 rfl rfl <| sd 7 rfl rfl <| sd 10 rfl rfl <| sn) (.cons rfl (roM D54) <| .nil) rfl rfl⟩
     ·
      refine T_exit ?_
      rw [lx h] at ho3
      replace h := ho3
      exact ⟨out4, h, Ent.sel [some 0] (sd 1 rfl rfl <| sd 2 rfl rfl <| sr 5 rfl (.own _ rfl) <| sd 6 rfl rfl <| sn) (.cons rfl (roM D54) <| .nil) rfl rfl⟩
   ·
    obtain ⟨out3, rfl⟩ : ∃ x, x = j := ⟨_, rfl⟩
    replace h := t1i h
    refine t1T ?_
    refine T_reg ?_
    refine R_q _ rfl (v_move (ov rfl)) ?_
    refine R_q _ rfl (v_fieldR (ov rfl) tF43_4) ?_
    refine R_q _ rfl (v_loadS_r (ov rfl) tS3 rfl) ?_
    refine R_q _ rfl (v_add (ov rfl) (ov rfl) rfl) ?_
    refine R_q _ rfl (v_assign (ov rfl)) ?_
    refine R_nil ?_
    exact ⟨(out3, (i64 (f + p.Every))), h, Ent.sel [some 0] (sd 1 rfl rfl <| sd 2 rfl rfl <| sr 5 rfl (.own _ rfl) <| sd 6 rfl rfl <| sn) (.cons rfl (roM D54) <| .nil) rfl rfl⟩
  ·
   refine T_exit ?_
   rw [lx h] at ho1
   replace h := ho1
   exact ⟨out2, h, Ent.sel [some 0] (sr 5 rfl (.own _ rfl) <| sn) (.cons rfl (roM D54) <| .nil) rfl rfl⟩
 ·
  obtain ⟨out, rfl⟩ : ∃ x, x = j := ⟨_, rfl⟩
  replace h := t1i h
  refine t1T ?_
  refine T_seq (T_reg ?_)
  refine R_q _ rfl (v_move (ov rfl)) ?_
  refine R_q _ rfl (v_assign (ov rfl)) ?_
  refine R_nil ?_
  obtain rfl := rt (v := out) h
  refine T_ret (retq ?_ (.one (.tmp rfl (View.ownM rfl rfl D54))))
  rfl
end Go.Proofs.Ytncoekfjpkfcdaa
