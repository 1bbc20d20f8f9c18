/- A text of the proof: a verified executor of the program form, or the contracts of the functions that the law reaches. -/
import Derived.Test.YtailpehcgelmdaaGreatDoorVS
import Derived.Test.YtailpehcgelmdaaGreatDoorShT
import Derived.Test.YtailpehcgelmdaaGreatDoorProg
import Derived.Test.YtailpehcgelmdaaGreatDoorLayA
set_option linter.all false
namespace Go.Proofs.YtailpehcgelmdaaGreatDoor
open Go Go.Vx
set_option maxRecDepth 10000
set_option maxHeartbeats 1000000
set_option linter.unusedVariables false
theorem tZ_136 : Tryz.prog.cellsOf 136 = 3 := by kernel_rfl
instance : SzD Tryz.prog 136 3 := ⟨tZ_136⟩
theorem tZ_49 : Tryz.prog.cellsOf 49 = 12 := by kernel_rfl
instance : SzD Tryz.prog 49 12 := ⟨tZ_49⟩
theorem tZ_56 : Tryz.prog.cellsOf 56 = 3 := by kernel_rfl
instance : SzD Tryz.prog 56 3 := ⟨tZ_56⟩
theorem tZ_54 : Tryz.prog.cellsOf 54 = 4 := by kernel_rfl
instance : SzD Tryz.prog 54 4 := ⟨tZ_54⟩
theorem tZ_3 : Tryz.prog.cellsOf 3 = 1 := by kernel_rfl
instance : SzD Tryz.prog 3 1 := ⟨tZ_3⟩
theorem tZ_99 : Tryz.prog.cellsOf 99 = 5 := by kernel_rfl
instance : SzD Tryz.prog 99 5 := ⟨tZ_99⟩
theorem tZ_24 : Tryz.prog.cellsOf 24 = 1 := by kernel_rfl
instance : SzD Tryz.prog 24 1 := ⟨tZ_24⟩
theorem tZ_44 : Tryz.prog.cellsOf 44 = 2 := by kernel_rfl
instance : SzD Tryz.prog 44 2 := ⟨tZ_44⟩
theorem ZaH : tAgg Tryz.prog 24 1 = true := by kernel_rfl
theorem Xe : tAgg Tryz.prog 44 2 = true := by kernel_rfl
theorem ZdY : JX Tryz.prog 44 = some [.int .i64 0, .slice none 0 0] := by kernel_rfl
theorem tZ_25 : Tryz.prog.cellsOf 25 = 1 := by kernel_rfl
instance : SzD Tryz.prog 25 1 := ⟨tZ_25⟩
theorem XO : tFld Tryz.prog 24 0 0 = true := by kernel_rfl
theorem ZcQ : tScal Tryz.prog 22 = true := by kernel_rfl
theorem Zar : tSl Tryz.prog 22 49 12 128 = true := by kernel_rfl
theorem Zaf : tAgg Tryz.prog 49 12 = true := by kernel_rfl
theorem Zjy : JX Tryz.prog 49 = some [.int .i64 0, .string ⟨#[]⟩, .string ⟨#[]⟩, .int .i64 0, .int .i64 0, .int .i64 0, .int .i64 0, .slice none 0 0, .int .i64 0, .int .i64 0, .bool false, .int .i64 0] := by kernel_rfl
theorem Q5 : tFld Tryz.prog 49 0 0 = true := by kernel_rfl
theorem tS3 : tScal Tryz.prog 3 = true := by kernel_rfl
theorem ZfS : tFld Tryz.prog 49 1 1 = true := by kernel_rfl
theorem tS9 : tScal Tryz.prog 9 = true := by kernel_rfl
theorem Qf : tStr Tryz.prog 9 = true := by kernel_rfl
theorem Zn0 : JX Tryz.prog 203 = some [.bool false, .bool false, .bool false, .bool false, .bool false, .bool false, .bool false, .bool false, .bool false, .bool false, .bool false, .bool false, .bool false, .bool false, .bool false, .bool false, .bool false, .bool false, .bool false, .bool false, .bool false, .bool false, .bool false, .bool false, .bool false, .bool false, .bool false, .bool false, .bool false, .bool false, .bool false, .bool false, .bool false, .bool false, .bool false, .bool false, .bool false, .bool false, .bool false, .bool false, .bool false, .bool false, .bool false, .bool false, .bool false, .bool false, .bool false, .bool false, .bool false, .bool false, .bool false, .bool false, .bool false, .bool false, .bool false, .bool false, .bool false, .bool false, .bool false, .bool false, .bool false, .bool false, .bool false, .bool false, .bool false, .bool false, .bool false, .bool false, .bool false, .bool false, .bool false, .bool false, .bool false, .bool false, .bool false, .bool false, .bool false, .bool false, .bool false, .bool false, .bool false, .bool false, .bool false, .bool false, .bool false, .bool false, .bool false, .bool false, .bool false, .bool false, .bool false, .bool false, .bool false, .bool false, .bool false, .bool false, .bool false, .bool false, .bool false, .bool false, .bool false, .bool false, .bool false, .bool false, .bool false, .bool false, .bool false, .bool false, .bool false, .bool false, .bool false, .bool false, .bool false, .bool false, .bool false, .bool false, .bool false, .bool false, .bool false, .bool false, .bool false, .bool false, .bool false, .bool false, .bool false, .bool false, .bool false, .bool false, .bool false, .bool false, .bool false, .bool false, .bool false, .bool false, .bool false, .bool false, .bool false, .bool false, .bool false, .bool false, .bool false, .bool false, .bool false, .bool false, .bool false, .bool false, .bool false, .bool false, .bool false, .bool false, .bool false, .bool false, .bool false, .bool false, .bool false, .bool false, .bool false, .bool false, .bool false, .bool false, .bool false, .bool false, .bool false, .bool false, .bool false, .bool false, .bool false, .bool false, .bool false, .bool false, .bool false, .bool false, .bool false, .bool false, .bool false, .bool false, .bool false, .bool false, .bool false, .bool false, .bool false, .bool false, .bool false, .bool false, .bool false, .bool false, .bool false, .bool false, .bool false, .bool false, .bool false, .bool false, .bool false, .bool false, .bool false, .bool false, .bool false, .bool false, .bool false, .bool false, .bool false, .bool false, .bool false, .bool false, .bool false, .bool false, .bool false, .bool false, .bool false, .bool false, .bool false, .bool false, .bool false, .bool false, .bool false, .bool false, .bool false, .bool false, .bool false, .bool false, .bool false, .bool false, .bool false, .bool false, .bool false, .bool false, .bool false, .bool false, .bool false, .bool false, .bool false, .bool false, .bool false, .bool false, .bool false, .bool false, .bool false, .bool false, .bool false, .bool false, .bool false, .bool false, .bool false, .bool false, .bool false, .bool false, .bool false, .bool false, .bool false, .bool false, .bool false, .bool false, .bool false, .bool false, .bool false, .bool false] := by kernel_rfl
theorem tZ_203 : Tryz.prog.cellsOf 203 = 256 := by kernel_rfl
instance : SzD Tryz.prog 203 256 := ⟨tZ_203⟩
theorem Zi5 : tAgg Tryz.prog 203 256 = true := by kernel_rfl
theorem ZnQ : tArr Tryz.prog 203 256 4 1 = true := by kernel_rfl
theorem tS4 : tScal Tryz.prog 4 = true := by kernel_rfl
theorem tI5 : tInt Tryz.prog 5 .u8 = true := by kernel_rfl
theorem Zoc : tInt Tryz.prog 21 .i32 = true := by kernel_rfl
theorem ZgB : tFld Tryz.prog 49 2 2 = true := by kernel_rfl
theorem Zdt : tFld Tryz.prog 49 3 3 = true := by kernel_rfl
theorem Jl : tSl Tryz.prog 26 3 1 8 = true := by kernel_rfl
theorem Zc9 : tFld Tryz.prog 49 4 4 = true := by kernel_rfl
theorem Zep : tFld Tryz.prog 49 5 5 = true := by kernel_rfl
theorem ZfR : tFld Tryz.prog 49 6 6 = true := by kernel_rfl
theorem Zc8 : tFld Tryz.prog 49 7 7 = true := by kernel_rfl
theorem Zit : tScal Tryz.prog 47 = true := by kernel_rfl
theorem Zgf : tSl Tryz.prog 47 136 3 32 = true := by kernel_rfl
theorem ZgF : tFld Tryz.prog 49 8 8 = true := by kernel_rfl
theorem ZgS : tFld Tryz.prog 49 9 9 = true := by kernel_rfl
theorem Zg5 : tFld Tryz.prog 49 10 10 = true := by kernel_rfl
theorem Zd1 : tFld Tryz.prog 49 11 11 = true := by kernel_rfl
theorem ZhX : tAgg Tryz.prog 136 3 = true := by kernel_rfl
theorem ZlE : JX Tryz.prog 136 = some [.int .i64 0, .int .i64 0, .string ⟨#[]⟩] := by kernel_rfl
theorem ZiE : tFld Tryz.prog 136 2 2 = true := by kernel_rfl
theorem Zf0 : tFld Tryz.prog 136 0 0 = true := by kernel_rfl
theorem Zf4 : tFld Tryz.prog 136 1 1 = true := by kernel_rfl
theorem Znt : tScal Tryz.prog 25 = true := by kernel_rfl
theorem Zdl : tSl Tryz.prog 25 54 4 56 = true := by kernel_rfl
theorem ZeQ : tAgg Tryz.prog 54 4 = true := by kernel_rfl
theorem Zkr : JX Tryz.prog 54 = some [.string ⟨#[]⟩, .int .i64 0, .slice none 0 0, .int .i64 0] := by kernel_rfl
theorem ZfM : tFld Tryz.prog 54 0 0 = true := by kernel_rfl
theorem ZfE : tFld Tryz.prog 54 1 1 = true := by kernel_rfl
theorem Zju : tAgg Tryz.prog 52 2 = true := by kernel_rfl
theorem tZ_52 : Tryz.prog.cellsOf 52 = 2 := by kernel_rfl
instance : SzD Tryz.prog 52 2 := ⟨tZ_52⟩
theorem Zkh : tFld Tryz.prog 52 0 0 = true := by kernel_rfl
theorem Za8 : tFld Tryz.prog 52 1 1 = true := by kernel_rfl
theorem Zfx : tScal Tryz.prog 50 = true := by kernel_rfl
theorem Zer : tSl Tryz.prog 50 56 3 24 = true := by kernel_rfl
theorem Jq : tAgg Tryz.prog 56 3 = true := by kernel_rfl
theorem ZdU : JX Tryz.prog 56 = some [.int .i64 0, .int .i64 0, .int .i64 0] := by kernel_rfl
theorem Zem : tFld Tryz.prog 56 0 0 = true := by kernel_rfl
theorem Zbj : tFld Tryz.prog 56 1 1 = true := by kernel_rfl
theorem ZfO : tFld Tryz.prog 56 2 2 = true := by kernel_rfl
theorem Zj9 : tFld Tryz.prog 54 2 3 = true := by kernel_rfl
theorem Zgn : ZbD Tryz.prog 44 = some [(0, 1), (1, 1)] := by kernel_rfl
theorem Zgp : Zef Tryz.prog 44 = true := by kernel_rfl
theorem J8 : tFld Tryz.prog 44 0 0 = true := by kernel_rfl
theorem Jt : tFld Tryz.prog 44 1 1 = true := by kernel_rfl
theorem ZdV : tScal Tryz.prog 42 = true := by kernel_rfl
theorem Zcl : tSl Tryz.prog 42 99 5 48 = true := by kernel_rfl
theorem Zcc : tAgg Tryz.prog 99 5 = true := by kernel_rfl
theorem Zki : JX Tryz.prog 99 = some [.bool false, .bool false, .int .i64 0, .int .i64 0, .slice none 0 0] := by kernel_rfl
theorem Jr : tFld Tryz.prog 99 0 0 = true := by kernel_rfl
theorem Zcu : tFld Tryz.prog 99 1 1 = true := by kernel_rfl
theorem ZcJ : tFld Tryz.prog 99 2 2 = true := by kernel_rfl
theorem Zda : tFld Tryz.prog 99 3 3 = true := by kernel_rfl
theorem X0 : tFld Tryz.prog 99 4 4 = true := by kernel_rfl
theorem Zdd : tScal Tryz.prog 26 = true := by kernel_rfl
theorem tI3 : tInt Tryz.prog 3 .i64 = true := by kernel_rfl
theorem ZlI : tInt Tryz.prog 126 .u64 = true := by kernel_rfl
theorem ZiT : ZbD Tryz.prog 56 = some [(0, 1), (1, 1), (2, 1)] := by kernel_rfl
theorem ZiJ : Zef Tryz.prog 56 = true := by kernel_rfl
theorem Zmu : (match Tryz.prog.underlying 26 with | some (.slice _) => true | _ => false) = true := by kernel_rfl
theorem ZmE : tArr Tryz.prog 244 2 3 1 = true := by kernel_rfl
theorem ZjY : tSl Tryz.prog 171 9 1 16 = true := by kernel_rfl
theorem tZ_9 : Tryz.prog.cellsOf 9 = 1 := by kernel_rfl
instance : SzD Tryz.prog 9 1 := ⟨tZ_9⟩
theorem Zn6 : ZbD Tryz.prog 54 = some [(0, 1), (1, 2), (3, 1)] := by kernel_rfl
theorem Zn1 : Zef Tryz.prog 54 = true := by kernel_rfl
theorem tB4 : (match Tryz.prog.underlying 4 with | some .bool => true | _ => false) = true := by kernel_rfl
theorem Zkk : JX Tryz.prog 39 = some [.string ⟨#[]⟩, .int .i64 0, .bool false, .int .i64 0] := by kernel_rfl
theorem tZ_39 : Tryz.prog.cellsOf 39 = 4 := by kernel_rfl
instance : SzD Tryz.prog 39 4 := ⟨tZ_39⟩
theorem ZmV : ZbD Tryz.prog 39 = some [(0, 1), (1, 1), (2, 1), (3, 1)] := by kernel_rfl
theorem ZmS : Zef Tryz.prog 39 = true := by kernel_rfl
theorem ZgN : tAgg Tryz.prog 39 4 = true := by kernel_rfl
theorem ZaY : tFld Tryz.prog 39 0 0 = true := by kernel_rfl
theorem Zm5 : tFld Tryz.prog 39 1 1 = true := by kernel_rfl
theorem ZfY : tSl Tryz.prog 37 39 4 40 = true := by kernel_rfl
theorem Zlr : tFld Tryz.prog 39 3 3 = true := by kernel_rfl
theorem Zkb : tFld Tryz.prog 39 2 2 = true := by kernel_rfl
theorem ZnT : Zjq Tryz.prog 39 [.s, .i .i64, .b, .i .i64] = true := by kernel_rfl
theorem ZoV : JX Tryz.prog 110 = some [.pointer none, .slice none 0 0] := by kernel_rfl
theorem tZ_110 : Tryz.prog.cellsOf 110 = 2 := by kernel_rfl
instance : SzD Tryz.prog 110 2 := ⟨tZ_110⟩
theorem tZ_5 : Tryz.prog.cellsOf 5 = 1 := by kernel_rfl
instance : SzD Tryz.prog 5 1 := ⟨tZ_5⟩
theorem ZkR : tSl Tryz.prog 108 5 1 1 = true := by kernel_rfl
theorem ZoK : ZbD Tryz.prog 49 = some [(0, 1), (1, 1), (2, 1), (3, 1), (4, 1), (5, 1), (6, 1), (7, 1), (8, 1), (9, 1), (10, 1), (11, 1)] := by kernel_rfl
theorem Zpc : Zef Tryz.prog 49 = true := by kernel_rfl
theorem Zn5 : ZbD Tryz.prog 24 = some [(0, 1)] := by kernel_rfl
theorem Zn2 : Zef Tryz.prog 24 = true := by kernel_rfl
theorem Zms : JX Tryz.prog 24 = some [.slice none 0 0] := by kernel_rfl
theorem Zo7 : ZbD Tryz.prog 52 = some [(0, 1), (1, 1)] := by kernel_rfl
theorem Zpa : Zef Tryz.prog 52 = true := by kernel_rfl
theorem Zph : JX Tryz.prog 52 = some [.int .i64 0, .slice none 0 0] := by kernel_rfl
theorem Zoe : (match Tryz.prog.underlying 22 with | some (.slice _) => true | _ => false) = true := by kernel_rfl
theorem Zot : (match Tryz.prog.underlying 47 with | some (.slice _) => true | _ => false) = true := by kernel_rfl
theorem ZoI : (match Tryz.prog.underlying 25 with | some (.slice _) => true | _ => false) = true := by kernel_rfl
theorem Zok : (match Tryz.prog.underlying 50 with | some (.slice _) => true | _ => false) = true := by kernel_rfl
theorem ZoW : ZbD Tryz.prog 91 = some [(0, 1), (1, 1), (2, 1), (3, 2), (5, 1), (6, 1)] := by kernel_rfl
theorem Zo5 : Zef Tryz.prog 91 = true := by kernel_rfl
theorem Zpg : JX Tryz.prog 91 = some [.slice none 0 0, .slice none 0 0, .int .i64 0, .int .i64 0, .slice none 0 0, .slice none 0 0, .slice none 0 0] := by kernel_rfl
theorem Zpn : tAgg Tryz.prog 91 7 = true := by kernel_rfl
theorem tZ_91 : Tryz.prog.cellsOf 91 = 7 := by kernel_rfl
instance : SzD Tryz.prog 91 7 := ⟨tZ_91⟩
theorem tZ_120 : Tryz.prog.cellsOf 120 = 2 := by kernel_rfl
instance : SzD Tryz.prog 120 2 := ⟨tZ_120⟩
theorem ZgP : tFld Tryz.prog 91 3 3 = true := by kernel_rfl
theorem ZmC : tFld Tryz.prog 91 0 0 = true := by kernel_rfl
theorem ZmZ : tFld Tryz.prog 91 1 1 = true := by kernel_rfl
theorem Zm3 : tFld Tryz.prog 91 2 2 = true := by kernel_rfl
theorem Za4 : tFld Tryz.prog 91 4 5 = true := by kernel_rfl
theorem Zei : tScal Tryz.prog 88 = true := by kernel_rfl
theorem ZfF : tSl Tryz.prog 88 44 2 32 = true := by kernel_rfl
theorem ZoA : (match Tryz.prog.underlying 42 with | some (.slice _) => true | _ => false) = true := by kernel_rfl
def gl0 : Gl := ⟨2, [(1, (Go.Lib.pow10Tab.map fun z => Value.int .u64 z).toArray)]⟩
def R136 (x : api_Zone) : List AV := [.int .i64 x.From, .int .i64 x.To, .str x.Name]
def R49 (x : api_Instrument) : List AV := [.int .i64 x.Kind, .str x.Name, .str x.Track, .int .i64 x.Places, .int .i64 x.Low, .int .i64 x.High, .int .i64 x.Steps, .sl 136 (List.map R136 x.Zones), .int .i64 x.Op, .int .i64 x.N, .bool x.Latch, .int .i64 x.Size]
def R56 (x : api_Sample) : List AV := [.int .i64 x.At, .int .i64 x.N, .int .i64 x.Mark]
def R54 (x : api_Track) : List AV := [.str x.Name, .int .i64 x.Series.Den, .sl 56 (List.map R56 x.Series.Samples), .int .i64 x.Long]
def R3 (x : Int) : List AV := [.int .i64 x]
def R99 (x : api_Memo) : List AV := [.bool x.Lit, .bool x.Some, .int .i64 x.N, .int .i64 x.Count, .sl 3 (List.map R3 x.Tape)]
def C4 (x : Bool) : AV := .bool x
theorem D3 (x : Int) : (R3 x).length = Tryz.prog.cellsOf 3 ∧ (R3 x).all datB = true := ⟨tZ_3.symm, rfl⟩
instance : RowD Tryz.prog 3 R3 := ⟨D3⟩
theorem D99 (x : api_Memo) : (R99 x).length = Tryz.prog.cellsOf 99 ∧ (R99 x).all datB = true := ⟨tZ_99.symm, rfl⟩
instance : RowD Tryz.prog 99 R99 := ⟨D99⟩
def R9 (x : Str) : List AV := [.str x]
theorem D9 (x : Str) : (R9 x).length = Tryz.prog.cellsOf 9 ∧ (R9 x).all datB = true := ⟨tZ_9.symm, rfl⟩
instance : RowD Tryz.prog 9 R9 := ⟨D9⟩
def R39 (x : api_Face) : List AV := [.str x.Text, .int .i64 x.Needle, .bool x.Lit, .int .i64 x.Mark]
theorem D39 (x : api_Face) : (R39 x).length = Tryz.prog.cellsOf 39 ∧ (R39 x).all datB = true := ⟨tZ_39.symm, rfl⟩
instance : RowD Tryz.prog 39 R39 := ⟨D39⟩
def R5 (x : Int) : List AV := [.int .u8 x]
theorem D5 (x : Int) : (R5 x).length = Tryz.prog.cellsOf 5 ∧ (R5 x).all datB = true := ⟨tZ_5.symm, rfl⟩
instance : RowD Tryz.prog 5 R5 := ⟨D5⟩
theorem D49 (x : api_Instrument) : (R49 x).length = Tryz.prog.cellsOf 49 ∧ (R49 x).all datB = true := ⟨tZ_49.symm, rfl⟩
instance : RowD Tryz.prog 49 R49 := ⟨D49⟩
theorem D136 (x : api_Zone) : (R136 x).length = Tryz.prog.cellsOf 136 ∧ (R136 x).all datB = true := ⟨tZ_136.symm, rfl⟩
instance : RowD Tryz.prog 136 R136 := ⟨D136⟩
theorem D54 (x : api_Track) : (R54 x).length = Tryz.prog.cellsOf 54 ∧ (R54 x).all datB = true := ⟨tZ_54.symm, rfl⟩
instance : RowD Tryz.prog 54 R54 := ⟨D54⟩
theorem D56 (x : api_Sample) : (R56 x).length = Tryz.prog.cellsOf 56 ∧ (R56 x).all datB = true := ⟨tZ_56.symm, rfl⟩
instance : RowD Tryz.prog 56 R56 := ⟨D56⟩
def R44 (x : api_PanelState) : List AV := [.int .i64 x.Frame, .sl 99 (List.map R99 x.Memos)]
def R120 (x : api_Bookmark) : List AV := [.int .i64 x.Frame, .str x.Text]
theorem D44 (x : api_PanelState) : (R44 x).length = Tryz.prog.cellsOf 44 ∧ (R44 x).all datB = true := ⟨tZ_44.symm, rfl⟩
instance : RowD Tryz.prog 44 R44 := ⟨D44⟩
theorem D120 (x : api_Bookmark) : (R120 x).length = Tryz.prog.cellsOf 120 ∧ (R120 x).all datB = true := ⟨tZ_120.symm, rfl⟩
instance : RowD Tryz.prog 120 R120 := ⟨D120⟩
theorem Qm {n : Int} {low : Int} {high : Int} {r : Bool} (h : ZV n low high = some r) :
 CSpec Tryz.prog gl0 37 [.int .i64 n, .int .i64 low, .int .i64 high] (.bool r) := by
 unfold ZV at h
 replace h := ZP h
 refine So Tryz.func37 Y fun w0 A=>Tr<|Ra Y<|Za<|Tr<|Rm Y<|Rm Y<|R2 JT Y<|Rm Y<|Rq Y (.guarded ((decide (low ≤ n)) == true) Y Y Y Y fun h => Zh<|ov Y)<|Rq Y (.guarded ((decide (low ≤ n)) == true) Y Y Y Y fun h => Zh<|ov Y)<|Rq Y (.guarded ((decide (low ≤ n)) == true) Y Y Y Y fun h => ZaM (ow Y h)<|ow Y h)<|Rq Y (Z3 (ov Y) fun hp=>ow Y<|gT hp)<|Ra Y<|Za<|?_
 obtain rfl := rt h
 exact Zg (Zo Y (.one<|rb Y))
theorem Zea {s : Str} {c_ : Int} {r : Str} (h : Xs s c_ = some r) :
 CSpec Tryz.prog gl0 177 [.str s, .int .u8 c_] (.str r) := by
 unfold Xs at h
 replace h := ZP h
 refine So Tryz.func177 Y fun w0 A=>Tr<|Ra Y<|Za<|I1 (fun s2=>⟨[(0, .str s2)], []⟩) h (fun h=>?_) fun s2 h=>?_
 ·
  refine Zm<|?_
  obtain ⟨r1, hl1, ho1⟩ := Xt h
  refine L1 (fun s3=>⟨[(0, .str s3), (1, .int .u8 c_)], []⟩) hl1 (ES []) fun n1 s3 h=>?_
  unfold XC at h
  refine Zl<|Tr<|Rm Y<|Rq Y (Qs (ov Y) Qf Y)<|R2 QP Y<|Rm Y<|Rq Y (.guarded ((decide (0 < (s3.length : Int))) == true) Y Y Y Y fun h => Zh<|ov Y)<|Rq Y (.guarded ((decide (0 < (s3.length : Int))) == true) Y Y Y Y fun h => Zh<|ov Y)<|Rq Y (.guarded ((decide (0 < (s3.length : Int))) == true) Y Y Y Y fun h => Qs (ow Y h) Qf Y)<|Rq Y (.guarded ((decide (0 < (s3.length : Int))) == true) Y Y Y Y fun h => Zho (ow Y h) (ov Y) Y)<|bE h fun b h_b h=>Rq Y (.guarded ((decide (0 < (s3.length : Int))) == true) Y Y Y Y fun h => Xg (ow Y h) (ow Y h) Qf<|gdT h_b h)<|Rq Y (.guarded ((decide (0 < (s3.length : Int))) == true) Y Y Y Y fun h => Zh<|ov Y)<|Rq Y (.guarded ((decide (0 < (s3.length : Int))) == true) Y Y Y Y fun h => ZY (ow Y h)<|ow Y h)<|Rq Y (Z3 (ov Y) fun hp=>ow Y<|gT hp)<|Za<|K3 0 1 16 Y<|If h Y (fun h=>?_) fun h=>?_
  ·
   exact Ze<|Zm<|K2 0 1 Y<|Zx<|Rm Y<|Rm Y<|Rq Y (Qs (ov Y) Qf Y)<|R2 Zes Y<|bE h fun s4 h_s4 h=>Rq Y (JD (ov Y) Qf on (oi<|ov Y) h_s4)<|Ra Y<|Za<|⟨_, h, ES []⟩
  ·
   refine ZM<|?_
   replace h := lx h ▸ ho1
   exact ⟨_, h, ES []⟩
 ·
  refine Tr<|Rm Y<|Ra Y<|Za<|?_
  obtain rfl := rt h
  exact Zg (Zo Y (.one<|rb Y))
theorem ZeB {s : Str} {c_ : Int} {r : Str} (h : XM s c_ = some r) :
 CSpec Tryz.prog gl0 176 [.str s, .int .u8 c_] (.str r) := by
 unfold XM at h
 replace h := ZP h
 refine So Tryz.func176 Y fun w0 A=>Tr<|Ra Y<|Za<|I1 (fun s2=>⟨[(0, .str s2)], []⟩) h (fun h=>?_) fun s2 h=>?_
 ·
  refine Zm<|?_
  obtain ⟨r1, hl1, ho1⟩ := Xt h
  refine L1 (fun s3=>⟨[(0, .str s3), (1, .int .u8 c_)], []⟩) hl1 (ES []) fun n1 s3 h=>?_
  unfold XR at h
  refine Zl<|Tr<|Rm Y<|Rq Y (Qs (ov Y) Qf Y)<|R2 QP Y<|Rm Y<|Rq Y (.guarded ((decide (0 < (s3.length : Int))) == true) Y Y Y Y fun h => Zh<|ov Y)<|bE h fun b h_b h=>Rq Y (.guarded ((decide (0 < (s3.length : Int))) == true) Y Y Y Y fun h => Xg (ow Y h) (ov Y) Qf<|gdT h_b h)<|Rq Y (.guarded ((decide (0 < (s3.length : Int))) == true) Y Y Y Y fun h => Zh<|ov Y)<|Rq Y (.guarded ((decide (0 < (s3.length : Int))) == true) Y Y Y Y fun h => ZY (ow Y h)<|ow Y h)<|Rq Y (Z3 (ov Y) fun hp=>ow Y<|gT hp)<|Za<|K3 0 1 13 Y<|If h Y (fun h=>?_) fun h=>?_
  ·
   exact Ze<|Zm<|K2 0 1 Y<|Zx<|Rm Y<|bE h fun s4 h_s4 h=>Rq Y (JD (ov Y) Qf (oi<|ov Y) on h_s4)<|Ra Y<|Za<|⟨_, h, ES []⟩
  ·
   refine ZM<|?_
   replace h := lx h ▸ ho1
   exact ⟨_, h, ES []⟩
 ·
  refine Tr<|Rm Y<|Ra Y<|Za<|?_
  obtain rfl := rt h
  exact Zg (Zo Y (.one<|rb Y))
theorem Zev {chars : Str} {r : (Vector Bool 256) × Bool} (h : QX chars = some r) :
 CSpec Tryz.prog gl0 178 [.str chars] (.tuple [.agg (List.map C4 r.1.toList), .bool r.2]) := by
 unfold QX at h
 replace h := ZP h
 refine So Tryz.func178 Y fun w0 A=>Tr<|Rx Y (ZC (row := (List.map C4 (Vector.replicate 256 false).toList)) 0 Y Zn0 Y tZ_203)<|Ra Y<|Za<|J1 (fun j => (.inr j)) (fun as_=>⟨[(2, .ptr 0 1 0 0)], [some ⟨203, [(List.map C4 as_.toList)]⟩]⟩) h (fun h=>?_) fun as_ h=>?_
 ·
  refine K2 0 2 Y<|Tr<|Ra Y<|Za<|Zm<|?_
  obtain ⟨r1, hl1, ho1⟩ := Xt h
  refine L2 (fun as_2 i=>⟨[(0, .str chars), (2, .ptr 0 1 0 0), (4, .int .i64 i)], [some ⟨203, [(List.map C4 as_2.toList)]⟩]⟩) hl1 (ES [some 0]) fun n1 as_2 i h=>?_
  unfold XT at h
  refine Zl<|Tr<|Rm Y<|Rm Y<|Rq Y (Qs (ov Y) Qf Y)<|R2 Z8 Y<|Za<|K4 0 2 4 9 Y<|If h Y (fun h=>?_) fun h=>?_
  ·
   refine Ze<|Zl<|Zm<|K3 0 2 4 Y<|Tr<|Rm Y<|Rm Y<|bE h fun b h_b h=>Rq Y (Xg (ov Y) (ov Y) Qf h_b)<|Ra Y<|Za<|Zl<|K4 0 2 4 5 Y<|Tr<|Rm Y<|R2 JT Y<|Za<|K5 0 2 4 5 16 Y<|If h Y (fun h=>?_) fun h=>?_
   ·
    refine K1 2 Y<|Tr<|Rq Y (ZW (ov Y) Y Y Y Zi5 (Zkp<|ZfD arL) arL (hns := (nsM fun _ => Y)))<|Rx Y (Zk (ov Y) (ov Y) (Zn Zi5 arL) Y Y Y (Zk7 (ZfD arL) arL) (Zd<|arC fun _ => Y)<|Zkd<|Eq.trans arL<|Eq.symm arL)<|Ra Y<|Za<|?_
    replace h := lx h ▸ ho1
    obtain rfl := rt h
    exact Zg (Zo Y (.two (.agg Y Y Y Y Zi5 (Zkp<|ZfD arL) arL (pwB<|arD fun _ => Y) (hns := (nsM fun _ => Y)))<|rb Y))
   ·
    exact Ze<|K4 0 2 4 5 Y<|Zx<|Rm Y<|bE h fun x h_x h=>Rq Y (Zou (ov Y) (ov Y) ZnQ Y Y h_x)<|Rx Y (Zk (ov Y) (ov Y) (Zr tS4) Y Y Y (arB h_x) (Zd Y)<|arS h_x)<|Za<|K3 0 2 4 Y<|Zx<|Rm Y<|R2 QG Y<|Ra Y<|Za<|⟨_, h, ES [some 0]⟩
  ·
   refine ZM<|?_
   replace h := lx h ▸ ho1
   exact ⟨_, h, ES [some 0]⟩
 ·
  replace h := elr h
  replace h := t1i h
  refine Tr<|Rq Y (ZW (ov Y) Y Y Y Zi5 (Zkp<|ZfD arL) arL (hns := (nsM fun _ => Y)))<|Rx Y (Zk (ov Y) (ov Y) (Zn Zi5 arL) Y Y Y (Zk7 (ZfD arL) arL) (Zd<|arC fun _ => Y)<|Zkd<|Eq.trans arL<|Eq.symm arL)<|Ra Y<|Za<|?_
  obtain rfl := rt h
  exact Zg (Zo Y (.two (.agg Y Y Y Y Zi5 (Zkp<|ZfD arL) arL (pwB<|arD fun _ => Y) (hns := (nsM fun _ => Y)))<|rb Y))
theorem ZaE {as_ : Vector Bool 256} {c_ : Int} {r : Bool} (h : Z6 as_ c_ = some r) :
 CSpec Tryz.prog gl0 193 [.rp (List.map C4 as_.toList) 0, .int .u8 c_] (.bool r) := by
 unfold Z6 at h
 replace h := ZP h
 refine So Tryz.func193 Y fun w0 A=>Tr<|Ra Y<|Za<|Tr<|Rm Y<|Rm Y<|R1 ZkF Y<|bE h fun x h_x h=>Rq Y (ZoB (ov Y) (ov Y) ZnQ h_x)<|Rq Y (Zb (ov Y) tS4<|Zoo<|ZoO (o := 0) (o' := (c_.toNat * 1)) (ZfD arL)<|Zo6 h_x)<|Ra Y<|Za<|?_
 obtain rfl := rt h
 exact Zg (Zo Y (.one<|rb Y))
theorem ZdW {s : Str} {as_ : Vector Bool 256} {r : Str} (h : Qt s as_ = some r) :
 CSpec Tryz.prog gl0 180 [.str s, .rp (List.map C4 as_.toList) 0] (.str r) := by
 unfold Qt at h
 replace h := ZP h
 refine So Tryz.func180 Y fun w0 A=>Tr<|Ra Y<|Za<|I1 (fun s2=>⟨[(0, .str s2)], []⟩) h (fun h=>?_) fun s2 h=>?_
 ·
  refine Zm<|?_
  obtain ⟨r1, hl1, ho1⟩ := Xt h
  refine L1 (fun s3=>⟨[(0, .str s3), (1, .rp (List.map C4 as_.toList) 0)], []⟩) hl1 (ES []) fun n1 s3 h=>?_
  unfold Z7 at h
  refine Zl<|Tr<|Rm Y<|Rq Y (Qs (ov Y) Qf Y)<|R2 QP Y<|Za<|K3 0 1 7 Y<|If h Y (fun h=>?_) fun h=>?_
  ·
   refine Ze<|Zm<|Zl<|K2 0 1 Y<|Tr<|Rm Y<|Rm Y<|Rm Y<|Rq Y (Qs (ov Y) Qf Y)<|R2 Zes Y<|bE h fun b h_b h=>Rq Y (Xg (ov Y) (ov Y) Qf h_b)<|bE h fun y h_y h=>Rq Y (Zj (ZaE h_y)<|.cons (ov Y) (.b Y)<|.cons (ov Y) (.b Y) .nil)<|R1 Qe Y<|Za<|K3 0 1 15 Y<|If h Y (fun h=>?_) fun h=>?_
   ·
    refine ZM<|?_
    replace h := lx h ▸ ho1
    exact ⟨_, h, ES []⟩
   ·
    exact Ze<|K2 0 1 Y<|Zx<|Rm Y<|Rm Y<|Rq Y (Qs (ov Y) Qf Y)<|R2 Zes Y<|bE h fun s4 h_s4 h=>Rq Y (JD (ov Y) Qf on (oi<|ov Y) h_s4)<|Ra Y<|Za<|⟨_, h, ES []⟩
  ·
   refine ZM<|?_
   replace h := lx h ▸ ho1
   exact ⟨_, h, ES []⟩
 ·
  refine Tr<|Rm Y<|Ra Y<|Za<|?_
  obtain rfl := rt h
  exact Zg (Zo Y (.one<|rb Y))
theorem Zeh {s : Str} {as_ : Vector Bool 256} {r : Str} (h : Qy s as_ = some r) :
 CSpec Tryz.prog gl0 179 [.str s, .rp (List.map C4 as_.toList) 0] (.str r) := by
 unfold Qy at h
 replace h := ZP h
 refine So Tryz.func179 Y fun w0 A=>Tr<|Ra Y<|Za<|I1 (fun s2=>⟨[(0, .str s2)], []⟩) h (fun h=>?_) fun s2 h=>?_
 ·
  refine Zm<|?_
  obtain ⟨r1, hl1, ho1⟩ := Xt h
  refine L1 (fun s3=>⟨[(0, .str s3), (1, .rp (List.map C4 as_.toList) 0)], []⟩) hl1 (ES []) fun n1 s3 h=>?_
  unfold Z9 at h
  refine Zl<|Tr<|Rm Y<|Rq Y (Qs (ov Y) Qf Y)<|R2 QP Y<|Za<|K3 0 1 7 Y<|If h Y (fun h=>?_) fun h=>?_
  ·
   refine Ze<|Zm<|Zl<|K2 0 1 Y<|Tr<|Rm Y<|Rm Y<|bE h fun b h_b h=>Rq Y (Xg (ov Y) (ov Y) Qf h_b)<|bE h fun y h_y h=>Rq Y (Zj (ZaE h_y)<|.cons (ov Y) (.b Y)<|.cons (ov Y) (.b Y) .nil)<|R1 Qe Y<|Za<|K3 0 1 12 Y<|If h Y (fun h=>?_) fun h=>?_
   ·
    refine ZM<|?_
    replace h := lx h ▸ ho1
    exact ⟨_, h, ES []⟩
   ·
    exact Ze<|K2 0 1 Y<|Zx<|Rm Y<|bE h fun s4 h_s4 h=>Rq Y (JD (ov Y) Qf (oi<|ov Y) on h_s4)<|Ra Y<|Za<|⟨_, h, ES []⟩
  ·
   refine ZM<|?_
   replace h := lx h ▸ ho1
   exact ⟨_, h, ES []⟩
 ·
  refine Tr<|Rm Y<|Ra Y<|Za<|?_
  obtain rfl := rt h
  exact Zg (Zo Y (.one<|rb Y))
theorem Zg6 {b : Int} {r : Bool} (h : Zbc b = some r) :
 CSpec Tryz.prog gl0 201 [.int .u8 b] (.bool r) := by
 unfold Zbc at h
 replace h := ZP h
 refine So Tryz.func201 Y fun w0 A=>Tr<|Ra Y<|Za<|Tr<|Rm Y<|R2 Zof Y<|R2 Z0 Y<|Ra Y<|Za<|?_
 obtain rfl := rt h
 exact Zg (Zo Y (.one<|rb Y))
theorem ZcB {s : Str} {r : Int × Int} (h : QB s = some r) :
 CSpec Tryz.prog gl0 199 [.str s] (.tuple [.int .i32 r.1, .int .i64 r.2]) := by
 unfold QB at h
 replace h := ZP h
 refine So Tryz.func199 Y fun w0 A=>Tr<|Ra Y<|Ra Y<|Za<|K1 0 Y<|Tr<|Rm Y<|Rq Y (Qs (ov Y) Qf Y)<|Ra Y<|Za<|Zl<|K2 0 4 Y<|Tr<|Rm Y<|R2 Z8 Y<|Za<|K3 0 4 16 Y<|If h Y (fun h=>?_) fun h=>?_
 ·
  refine K0<|Tr<|Ra Y<|Ra Y<|Za<|?_
  obtain rfl := rt h
  exact Zg (Zo Y (.two (rb Y)<|rb Y))
 ·
  exact Ze<|K2 0 4 Y<|Tr<|Rm Y<|bE h fun b h_b h=>Rq Y (Xg (ov Y) (ov Y) Qf h_b)<|Ra Y<|Za<|(ZlG h).elim
theorem Za5 {s : Str} {r : Int × Int} (h : QF s = some r) :
 CSpec Tryz.prog gl0 194 [.str s] (.tuple [.int .i32 r.1, .int .i64 r.2]) := by
 unfold QF at h
 replace h := ZP h
 refine So Tryz.func194 Y fun w0 A=>Tr<|Ra Y<|Ra Y<|Za<|Zl<|K1 0 Y<|Tr<|Rm Y<|R2 ZkH Y<|Rm Y<|Rq Y (.guarded ((!decide (s = [])) == true) Y Y Y Y fun h => Zh<|ov Y)<|bE h fun b h_b h=>Rq Y (.guarded ((!decide (s = [])) == true) Y Y Y Y fun h => Xg (ow Y h) (ov Y) Qf<|gdT h_b h)<|Rq Y (.guarded ((!decide (s = [])) == true) Y Y Y Y fun h => Z8 (ow Y h)<|ov Y)<|Rq Y (Z3 (ov Y) fun hp=>ow Y<|gT hp)<|Za<|K2 0 10 Y<|If h Y (fun h=>?_) fun h=>?_
 ·
  refine K1 0 Y<|Tr<|Rm Y<|bE h fun b2 h_b2 h=>Rq Y (Xg (ov Y) (ov Y) Qf h_b2)<|Rq Y (ZgM (ov Y) tI5 Zoc Y)<|Ra Y<|Ra Y<|Za<|?_
  obtain rfl := rt h
  exact Zg (Zo Y (.two (rb Y)<|rb Y))
 ·
  refine K1 0 Y<|Zx<|Rm Y<|bE h fun y h_y h=>Rq Y (Zj (ZcB h_y)<|.cons (ov Y) (.b Y) .nil)<|Rm Y<|Rq Y (Zu (ov Y) Y)<|Rq Y (Zu (ov Y) Y)<|Ra Y<|Ra Y<|Za<|?_
  obtain rfl := rt h
  exact Zg (Zo Y (.two (rb Y)<|rb Y))
theorem Zcz {s : Str} {r : Int × Int} (h : QC s = some r) :
 CSpec Tryz.prog gl0 196 [.str s] (.tuple [.int .i32 r.1, .int .i64 r.2]) := by
 unfold QC at h
 replace h := ZP h
 refine So Tryz.func196 Y fun w0 A=>Tr<|Ra Y<|Ra Y<|Za<|K1 0 Y<|Tr<|Rm Y<|Rq Y (Qs (ov Y) Qf Y)<|Ra Y<|Za<|Zl<|K2 0 4 Y<|Tr<|Rm Y<|R2 ZY Y<|Za<|K3 0 4 10 Y<|If h Y (fun h=>?_) fun h=>?_
 ·
  refine K0<|Tr<|Ra Y<|Ra Y<|Za<|?_
  obtain rfl := rt h
  exact Zg (Zo Y (.two (rb Y)<|rb Y))
 ·
  refine Ze<|K2 0 4 Y<|Tr<|Rm Y<|R2 Zes Y<|Ra Y<|Za<|K3 0 4 5 Y<|Tr<|Rm Y<|Rm Y<|bE h fun b h_b h=>Rq Y (Xg (ov Y) (ov Y) Qf h_b)<|Rq Y (ZgM (ov Y) tI5 Zoc Y)<|Ra Y<|Za<|Zl<|K4 0 2 4 5 Y<|Tr<|Rm Y<|R2 Z8 Y<|Za<|K5 0 2 4 5 18 Y<|If h Y (fun h=>?_) fun h=>?_
  ·
   refine K1 2 Y<|Tr<|Rm Y<|Ra Y<|Ra Y<|Za<|?_
   obtain rfl := rt h
   exact Zg (Zo Y (.two (rb Y)<|rb Y))
  ·
   refine Ze<|K3 0 4 5 Y<|Tr<|Rm Y<|R2 Zes Y<|Rq Y (Zmh (ov Y) (ov Y) Y)<|Ra Y<|Za<|I1 (fun start=>⟨[(0, .str s), (4, .int .i64 (s.length : Int)), (5, .int .i64 start)], []⟩) h (fun h=>?_) fun start h=>?_
   ·
    refine K4 0 4 5 6 Y<|Tr<|Rm Y<|R2 Zes Y<|Ra Y<|Za<|Zm<|?_
    obtain ⟨r1, hl1, ho1⟩ := Xt h
    refine L1 (fun start2=>⟨[(0, .str s), (4, .int .i64 (s.length : Int)), (5, .int .i64 start2), (6, .int .i64 (max (i64 ((s.length : Int) - 4)) 0))], []⟩) hl1 (ES []) fun n1 start2 h=>?_
    unfold QJ at h
    refine Zl<|Tr<|Rm Y<|Rm Y<|R2 JT Y<|Za<|K5 0 4 5 6 27 Y<|If h Y (fun h=>?_) fun h=>?_
    ·
     refine Ze<|Zl<|Zm<|K4 0 4 5 6 Y<|Tr<|Rm Y<|Rm Y<|bE h fun b2 h_b2 h=>Rq Y (Xg (ov Y) (ov Y) Qf h_b2)<|bE h fun y h_y h=>Rq Y (Zj (Zg6 h_y)<|.cons (ov Y) (.b Y) .nil)<|Za<|K5 0 4 5 6 33 Y<|If h Y (fun h=>?_) fun h=>?_
     ·
      refine ZM<|?_
      replace h := lx h ▸ ho1
      exact ⟨_, h, ES []⟩
     ·
      exact Ze<|K4 0 4 5 6 Y<|Zx<|Rm Y<|R2 Zes Y<|Ra Y<|Za<|⟨_, h, ES []⟩
    ·
     refine ZM<|?_
     replace h := lx h ▸ ho1
     exact ⟨_, h, ES []⟩
   ·
    refine I1 (fun start3=>⟨[(0, .str s), (4, .int .i64 (s.length : Int)), (5, .int .i64 start3)], []⟩) h (fun h=>?_) fun start3 h=>?_
    ·
     refine Tr<|Rm Y<|R2 Z8 Y<|Za<|K4 0 4 5 35 Y<|If h Y (fun h=>?_) fun h=>?_
     ·
      exact K3 0 4 5 Y<|Zx<|Ra Y<|Za<|⟨_, h, ES []⟩
     ·
      exact Ze<|⟨_, h, ES []⟩
    ·
     refine Tr<|Rm Y<|Rm Y<|Rm Y<|bE h fun s2 h_s2 h=>Rq Y (JD (ov Y) Qf (oi<|ov Y) (oi<|ov Y) h_s2)<|bE h fun y2 h_y2 h=>Rq Y (Zj (Za5 h_y2)<|.cons (ov Y) (.b Y) .nil)<|Rm Y<|Rq Y (Zu (ov Y) Y)<|Rq Y (Zu (ov Y) Y)<|Ra Y<|Ra Y<|Za<|Zl<|K4 2 3 4 5 Y<|Tr<|Rm Y<|Rm Y<|R2 QG Y<|Rm Y<|R2 Z0 Y<|Za<|K3 2 3 48 Y<|If h Y (fun h=>?_) fun h=>?_
     ·
      refine K2 2 3 Y<|Tr<|Ra Y<|Ra Y<|Za<|?_
      obtain rfl := rt h
      exact Zg (Zo Y (.two (rb Y)<|rb Y))
     ·
      refine Ze<|K2 2 3 Y<|Tr<|Rm Y<|Rm Y<|Ra Y<|Ra Y<|Za<|?_
      obtain rfl := rt h
      exact Zg (Zo Y (.two (rb Y)<|rb Y))
theorem ZbO {s : Str} {r_ : Int} {r : Bool} (h : Q0 s r_ = some r) :
 CSpec Tryz.prog gl0 195 [.str s, .int .i32 r_] (.bool r) := by
 unfold Q0 at h
 replace h := ZP h
 exact So Tryz.func195 Y fun w0 A=>Tr<|Ra Y<|Za<|(ZlG h).elim
theorem Zdg {s : Str} {cutset : Str} {r : Str} (h : QS s cutset = some r) :
 CSpec Tryz.prog gl0 182 [.str s, .str cutset] (.str r) := by
 unfold QS at h
 replace h := ZP h
 refine So Tryz.func182 Y fun w0 A=>Tr<|Ra Y<|Za<|I1 (fun s2=>⟨[(0, .str s2)], []⟩) h (fun h=>?_) fun s2 h=>?_
 ·
  refine Zm<|?_
  obtain ⟨r1, hl1, ho1⟩ := Xt h
  refine L1 (fun s3=>⟨[(0, .str s3), (1, .str cutset)], []⟩) hl1 (ES []) fun n1 s3 h=>?_
  unfold Q4 at h
  refine Zl<|Tr<|Rm Y<|Rq Y (Qs (ov Y) Qf Y)<|R2 QP Y<|Za<|K3 0 1 9 Y<|If h Y (fun h=>?_) fun h=>?_
  ·
   refine Ze<|Zm<|K2 0 1 Y<|Tr<|Rm Y<|Rm Y<|Rq Y (Qs (ov Y) Qf Y)<|R2 Zes Y<|bE h fun b h_b h=>Rq Y (Xg (ov Y) (ov Y) Qf h_b)<|Rq Y (ZgM (ov Y) tI5 Zoc Y)<|Ra Y<|Ra Y<|Za<|I2 (fun r_ n=>⟨[(0, .str s3), (1, .str cutset), (5, .int .i32 r_), (6, .int .i64 n)], []⟩) h (fun h=>?_) fun r_ n h=>?_
   ·
    refine K4 0 1 5 6 Y<|Tr<|Rm Y<|R2 JT Y<|Za<|K5 0 1 5 6 17 Y<|If h Y (fun h=>?_) fun h=>?_
    ·
     exact K4 0 1 5 6 Y<|Zx<|Rm Y<|bE h fun y h_y h=>Rq Y (Zj (Zcz h_y)<|.cons (ov Y) (.b Y) .nil)<|Rm Y<|Rq Y (Zu (ov Y) Y)<|Rq Y (Zu (ov Y) Y)<|Ra Y<|Ra Y<|Za<|⟨_, h, ES []⟩
    ·
     exact Ze<|⟨((i32 b), 1), h, ES []⟩
   ·
    refine Zl<|Tr<|Rm Y<|Rm Y<|bE h fun y2 h_y2 h=>Rq Y (Zj (ZbO h_y2)<|.cons (ov Y) (.b Y)<|.cons (ov Y) (.b Y) .nil)<|R1 Qe Y<|Za<|K4 0 1 6 26 Y<|If h Y (fun h=>?_) fun h=>?_
    ·
     refine ZM<|?_
     replace h := lx h ▸ ho1
     exact ⟨_, h, ES []⟩
    ·
     exact Ze<|K3 0 1 6 Y<|Zx<|Rm Y<|Rm Y<|Rq Y (Qs (ov Y) Qf Y)<|Rm Y<|R2 Zes Y<|bE h fun s4 h_s4 h=>Rq Y (JD (ov Y) Qf on (oi<|ov Y) h_s4)<|Ra Y<|Za<|⟨_, h, ES []⟩
  ·
   refine ZM<|?_
   replace h := lx h ▸ ho1
   exact ⟨_, h, ES []⟩
 ·
  refine Tr<|Rm Y<|Ra Y<|Za<|?_
  obtain rfl := rt h
  exact Zg (Zo Y (.one<|rb Y))
theorem ZdM {s : Str} {cutset : Str} {r : Str} (h : Q2 s cutset = some r) :
 CSpec Tryz.prog gl0 181 [.str s, .str cutset] (.str r) := by
 unfold Q2 at h
 replace h := ZP h
 refine So Tryz.func181 Y fun w0 A=>Tr<|Ra Y<|Za<|I1 (fun s2=>⟨[(0, .str s2)], []⟩) h (fun h=>?_) fun s2 h=>?_
 ·
  refine Zm<|?_
  obtain ⟨r1, hl1, ho1⟩ := Xt h
  refine L1 (fun s3=>⟨[(0, .str s3), (1, .str cutset)], []⟩) hl1 (ES []) fun n1 s3 h=>?_
  unfold Xb at h
  refine Zl<|Tr<|Rm Y<|Rq Y (Qs (ov Y) Qf Y)<|R2 QP Y<|Za<|K3 0 1 9 Y<|If h Y (fun h=>?_) fun h=>?_
  ·
   refine Ze<|Zm<|K2 0 1 Y<|Tr<|Rm Y<|bE h fun y h_y h=>Rq Y (Zj (Za5 h_y)<|.cons (ov Y) (.b Y) .nil)<|Rm Y<|Rq Y (Zu (ov Y) Y)<|Rq Y (Zu (ov Y) Y)<|Ra Y<|Ra Y<|Za<|Zl<|K4 0 1 5 6 Y<|Tr<|Rm Y<|Rm Y<|bE h fun y2 h_y2 h=>Rq Y (Zj (ZbO h_y2)<|.cons (ov Y) (.b Y)<|.cons (ov Y) (.b Y) .nil)<|R1 Qe Y<|Za<|K4 0 1 6 18 Y<|If h Y (fun h=>?_) fun h=>?_
   ·
    refine ZM<|?_
    replace h := lx h ▸ ho1
    exact ⟨_, h, ES []⟩
   ·
    exact Ze<|K3 0 1 6 Y<|Zx<|Rm Y<|Rm Y<|bE h fun s4 h_s4 h=>Rq Y (JD (ov Y) Qf (oi<|ov Y) on h_s4)<|Ra Y<|Za<|⟨_, h, ES []⟩
  ·
   refine ZM<|?_
   replace h := lx h ▸ ho1
   exact ⟨_, h, ES []⟩
 ·
  refine Tr<|Rm Y<|Ra Y<|Za<|?_
  obtain rfl := rt h
  exact Zg (Zo Y (.one<|rb Y))
theorem Zix {s : Str} {cutset : Str} {r : Str} (h : JK s cutset = some r) :
 CSpec Tryz.prog gl0 160 [.str s, .str cutset] (.str r) := by
 unfold JK at h
 replace h := ZP h
 refine So Tryz.func160 Y fun w0 A=>Tr<|Ra Y<|Za<|Zl<|K2 0 1 Y<|Tr<|Rm Y<|R2 Qk Y<|Rm Y<|Rq Y (.guarded ((decide (s = [])) == false) Y Y Y Y fun h => Zh<|ov Y)<|Rq Y (.guarded ((decide (s = [])) == false) Y Y Y Y fun h => Qk (ow Y h)<|ov Y)<|Rq Y (QR (ov Y) fun hp=>ow Y<|gF hp)<|Za<|K3 0 1 12 Y<|If h Y (fun h=>?_) fun h=>?_
 ·
  refine K1 0 Y<|Tr<|Rm Y<|Ra Y<|Za<|?_
  obtain rfl := rt h
  exact Zg (Zo Y (.one<|rb Y))
 ·
  refine Ze<|Zl<|K2 0 1 Y<|Tr<|Rm Y<|Rq Y (Qs (ov Y) Qf Y)<|R2 ZY Y<|Rm Y<|Rq Y (.guarded ((decide ((cutset.length : Int) = 1)) == true) Y Y Y Y fun h => Zh<|ov Y)<|bE h fun b h_b h=>Rq Y (.guarded ((decide ((cutset.length : Int) = 1)) == true) Y Y Y Y fun h => Xg (ow Y h) (ov Y) Qf<|gdT h_b h)<|Rq Y (.guarded ((decide ((cutset.length : Int) = 1)) == true) Y Y Y Y fun h => Z8 (ow Y h)<|ov Y)<|Rq Y (Z3 (ov Y) fun hp=>ow Y<|gT hp)<|Za<|K3 0 1 21 Y<|If h Y (fun h=>?_) fun h=>?_
  ·
   refine K2 0 1 Y<|Td md0<|D1 0 Zh Y<|D1 1 Zh Y<|bE h fun b2 h_b2 h=>Dq 2 Y (Xg (ov Y) (ov Y) Qf h_b2)<|bE h fun y h_y h=>Dq 3 Y (Zj (Zea h_y)<|.cons (ov Y) (.b Y)<|.cons (ov Y) (.b Y) .nil)<|D1 4 Zh Y<|bE h fun b3 h_b3 h=>Dq 5 Y (Xg (ov Y) (ov Y) Qf h_b3)<|bE h fun y2 h_y2 h=>Dq 6 Y (Zj (ZeB h_y2)<|.cons (ov Y) (.b Y)<|.cons (ov Y) (.b Y) .nil)<|D1 7 QN Y<|Dd<|?_
   obtain rfl := rt h
   exact Zg (Zo Y (.one<|rb Y))
  ·
   refine Ze<|Zl<|K2 0 1 Y<|Tr<|Rm Y<|bE h fun y3 h_y3 h=>Rq Y (Zj (Zev h_y3)<|.cons (ov Y) (.b Y) .nil)<|Rm Y<|Rq Y (Zu (ov Y) Y)<|Rq Y (Zu (ov Y) Y)<|Rx Y (ZC (row := (List.map C4 (Vector.replicate 256 false).toList)) 0 Y Zn0 Y tZ_203)<|Rx Y (Zk (ov Y) (ov Y) (Zn Zi5 arL) Y Y Y (Zk7 (ZfD arL) arL) (Zd<|arC fun _ => Y)<|Zkd<|Eq.trans arL<|Eq.symm arL)<|Ra Y<|Za<|K4 0 1 5 6 Y<|Tr<|Rm Y<|Za<|K4 0 1 5 34 Y<|If h Y (fun h=>?_) fun h=>?_
   ·
    refine K2 0 5 Y<|Tr<|Rm Y<|bE h fun y4 h_y4 h=>Rq Y (ZiC (ZdW h_y4) .str<|.cons (ov Y) (Dat.view<|.b Y)<|.cons (ov Y) (View.ptr Y Y Y (pwB<|arD fun _ => Y) (hns := (nsM fun _ => Y))) .nil)<|bE h fun y5 h_y5 h=>Rq Y (ZiC (Zeh h_y5) .str<|.cons (ov Y) (Dat.view<|.b Y)<|.cons (ov Y) (View.ptr Y Y Y (pwB<|arD fun _ => Y) (hns := (nsM fun _ => Y))) .nil)<|Ra Y<|Za<|?_
    obtain rfl := rt h
    exact Zg (Zo Y (.one<|rb Y))
   ·
    refine Ze<|K2 0 1 Y<|Tr<|Rm Y<|Rm Y<|bE h fun y6 h_y6 h=>Rq Y (Zj (Zdg h_y6)<|.cons (ov Y) (.b Y)<|.cons (ov Y) (.b Y) .nil)<|Rm Y<|bE h fun y7 h_y7 h=>Rq Y (Zj (ZdM h_y7)<|.cons (ov Y) (.b Y)<|.cons (ov Y) (.b Y) .nil)<|Ra Y<|Za<|?_
    obtain rfl := rt h
    exact Zg (Zo Y (.one<|rb Y))
theorem Zff {s : Str} {r : Bool} (h : JF s = some r) :
 CSpec Tryz.prog gl0 136 [.str s] (.bool r) := by
 unfold JF at h
 replace h := ZP h
 refine So Tryz.func136 Y fun w0 A=>Tr<|Ra Y<|Za<|Tr<|Rm Y<|Rq Y (Qs (ov Y) Qf Y)<|bE h fun y h_y h=>Rq Y (Zj (Qm h_y)<|.cons (ov Y) (.b Y)<|.cons (ov Y) (.b Y)<|.cons (ov Y) (.b Y) .nil)<|Rm Y<|Rq Y (.guarded (y == true) Y Y Y Y fun h => Zh<|ov Y)<|bE h fun y2 h_y2 h=>Rq Y (.guarded (y == true) Y Y Y Y fun h => Zj (Zix<|gdT h_y2 h)<|.cons (ow Y h) (.b Y)<|.cons (ov Y) (.b Y) .nil)<|Rq Y (.guarded (y == true) Y Y Y Y fun h => Qk (ow Y h)<|ov Y)<|Rq Y (Z3 (ov Y) fun hp=>ow Y<|gT hp)<|Ra Y<|Za<|?_
 obtain rfl := rt h
 exact Zg (Zo Y (.one<|rb Y))
theorem ZeK {s : List Int} {v : Int} {r : Int} (h : QZ s v = some r) :
 CSpec Tryz.prog gl0 183 [.sl 3 (List.map R3 s), .int .i64 v] (.int .i64 r) := by
 unfold QZ at h
 replace h := ZP h
 refine So Tryz.func183 Y fun w0 A=>Tr<|Ra Y<|Za<|J0 (fun j => (.inr j)) ⟨[], []⟩ h (fun h=>?_) fun h=>?_
 ·
  refine K2 0 1 Y<|Tr<|Rm Y<|Rl tZ_3 Jl Y<|Rm Y<|Za<|Zm<|?_
  obtain ⟨r1, hl1, ho1⟩ := Xt h
  refine L1 (fun i=>⟨[(0, .sl 3 (List.map R3 s)), (1, .int .i64 v), (7, .int .i64 (s.length : Int)), (8, .int .i64 i)], []⟩) hl1 (ES []) fun n1 i h=>?_
  unfold Qc at h
  refine Tr<|R2 Z8 Y<|Za<|Zl<|If h Y (fun h=>?_) fun h=>?_
  ·
   refine Ze<|Zl<|Zm<|K4 0 1 7 8 Y<|Tr<|Rm Y<|Ra Y<|Za<|K5 0 1 5 7 8 Y<|Tr<|Rm Y<|Rm Y<|Rm Y<|bE h fun x h_x h=>Rq Y (ZJ (ov Y) (ov Y) Jl h_x)<|Rq Y (Zb (ov Y) tS3 Y)<|R2 ZY Y<|Za<|K6 0 1 5 7 8 16 Y<|If h Y (fun h=>?_) fun h=>?_
   ·
    refine K1 5 Y<|Tr<|Rm Y<|Ra Y<|Za<|?_
    replace h := lx h ▸ ho1
    obtain rfl := rt h
    exact Zg (Zo Y (.one<|rb Y))
   ·
    exact Ze<|K4 0 1 7 8 Y<|Zx<|R2 QG Y<|Rm Y<|Za<|⟨_, h, ES []⟩
  ·
   refine ZM<|?_
   replace h := lx h ▸ ho1
   exact ⟨(), h, ES []⟩
 ·
  replace h := elr h
  replace h := t0i h
  refine Tr<|Ra Y<|Za<|?_
  obtain rfl := rt h
  exact Zg (Zo Y (.one<|rb Y))
theorem ZdE {s : List Int} {v : Int} {r : Bool} (h : Qp s v = some r) :
 CSpec Tryz.prog gl0 162 [.sl 3 (List.map R3 s), .int .i64 v] (.bool r) := by
 unfold Qp at h
 replace h := ZP h
 refine So Tryz.func162 Y fun w0 A=>Tr<|Ra Y<|Za<|Tr<|Rm Y<|Rm Y<|bE h fun y h_y h=>Rq Y (Zj (ZeK h_y)<|.cons (ov Y) (.b Y)<|.cons (ov Y) (.b Y) .nil)<|R2 JT Y<|Ra Y<|Za<|?_
 obtain rfl := rt h
 exact Zg (Zo Y (.one<|rb Y))
theorem JC {l : List Int} {c0 : api_Instrument} {r : Bool} (h : ZT l c0 = some r) :
 CSpec Tryz.prog gl0 161 [.sl 3 (List.map R3 l), .rp [.int .i64 c0.Kind, .str c0.Name, .str c0.Track, .int .i64 c0.Places, .int .i64 c0.Low, .int .i64 c0.High, .int .i64 c0.Steps, .sl 136 (List.map R136 c0.Zones), .int .i64 c0.Op, .int .i64 c0.N, .bool c0.Latch, .int .i64 c0.Size] 0] (.bool r) := by
 unfold ZT at h
 replace h := ZP h
 refine So Tryz.func161 Y fun w0 A=>Tr<|Ra Y<|Za<|Tr<|Rm Y<|Rq Y (Zc (ov Y) Q5)<|Rq Y (Zb (ov Y) tS3 Y)<|bE h fun y h_y h=>Rq Y (Zj (ZdE h_y)<|.cons (ov Y) (.b Y)<|.cons (ov Y) (.b Y) .nil)<|Ra Y<|Za<|?_
 obtain rfl := rt h
 exact Zg (Zo Y (.one<|rb Y))
theorem Zig {i : api_Instrument} {r : Bool} (h : Zan i = some r) :
 CSpec Tryz.prog gl0 137 [.agg [.int .i64 i.Kind, .str i.Name, .str i.Track, .int .i64 i.Places, .int .i64 i.Low, .int .i64 i.High, .int .i64 i.Steps, .sl 136 (List.map R136 i.Zones), .int .i64 i.Op, .int .i64 i.N, .bool i.Latch, .int .i64 i.Size]] (.bool r) := by
 unfold Zan at h
 replace h := ZP h
 refine So Tryz.func137 Y fun w0 A=>Tr<|Rq Y (ZB (cva<|ov Y) Y tZ_49 Y)<|Ra Y<|Za<|K1 1 Y<|Tr<|Rq Y (ZdS<|.cons (ov Y) .nil)<|Ra Y<|Za<|K2 1 3 Y<|Tr<|Rq Y (Zc (ov Y) Zdt)<|Rq Y (Zb (ov Y) tS3 Y)<|R2 Z0 Y<|Rm Y<|Rq Y (.guarded ((!decide (i.Places = 0)) == true) Y Y Y Y fun h => Zh<|ov Y)<|R_q (.when ((!decide (i.Places = 0)) == true)<|.sl 3<|List.map R3 ([1, 4, 6] : List Int)) Y (.guarded ((!decide (i.Places = 0)) == true) Y Y Y Y fun h => Jm Jl (.cons (cvs (ov Y)<|ZF Y) Y (.cons (.b Y) .nil)<|.cons (cvs (ov Y)<|ZF Y) Y (.cons (.b Y) .nil)<|.cons (cvs (ov Y)<|ZF Y) Y (.cons (.b Y) .nil) .nil) Y Y)<|bE h fun y h_y h=>Rq Y (.guarded ((!decide (i.Places = 0)) == true) Y Y Y Y fun h => Zbq (ow Y h) Y (JC<|gdT h_y h)<|.cons (ow Y h) (.b Y) .nil)<|Rq Y (.guarded ((!decide (i.Places = 0)) == true) Y Y Y Y fun h => Qe<|ow Y h)<|Rq Y (Z3 (ov Y) fun hp=>ow Y<|gT hp)<|Rm Y<|Rq Y (.guarded (((!decide (i.Places = 0)) && (!y)) == false) Y Y Y Y fun h => Zc (ov Y) Zc9)<|Rq Y (.guarded (((!decide (i.Places = 0)) && (!y)) == false) Y Y Y Y fun h => Zb (ow Y h) tS3 Y)<|Rq Y (.guarded (((!decide (i.Places = 0)) && (!y)) == false) Y Y Y Y fun h => Z0 (ow Y h)<|ov Y)<|Rq Y (.guarded (((!decide (i.Places = 0)) && (!y)) == false) Y Y Y Y fun h => Zh<|ow Y h)<|Rq Y (.guarded2 ((((!decide (i.Places = 0)) && (!y)) == false) && ((!decide (i.Low = 0)) == false)) Y Y Y Y fun h => Zc (ov Y) Zep)<|Rq Y (.guarded2 ((((!decide (i.Places = 0)) && (!y)) == false) && ((!decide (i.Low = 0)) == false)) Y Y Y Y fun h => Zb (ow Y h) tS3 Y)<|Rq Y (.guarded2 ((((!decide (i.Places = 0)) && (!y)) == false) && ((!decide (i.Low = 0)) == false)) Y Y Y Y fun h => Z0 (ow Y h)<|ov Y)<|Rq Y (.guarded (((!decide (i.Places = 0)) && (!y)) == false) Y Y Y Y fun h => QR (ow Y h) fun hp=>ow Y<|gA h<|gF hp)<|Rq Y (.guarded (((!decide (i.Places = 0)) && (!y)) == false) Y Y Y Y fun h => Zh<|ow Y h)<|Rq Y (.guarded2 ((((!decide (i.Places = 0)) && (!y)) == false) && (((!decide (i.Low = 0)) || (!decide (i.High = 0))) == false)) Y Y Y Y fun h => Zc (ov Y) ZfR)<|Rq Y (.guarded2 ((((!decide (i.Places = 0)) && (!y)) == false) && (((!decide (i.Low = 0)) || (!decide (i.High = 0))) == false)) Y Y Y Y fun h => Zb (ow Y h) tS3 Y)<|Rq Y (.guarded2 ((((!decide (i.Places = 0)) && (!y)) == false) && (((!decide (i.Low = 0)) || (!decide (i.High = 0))) == false)) Y Y Y Y fun h => Z0 (ow Y h)<|ov Y)<|Rq Y (.guarded (((!decide (i.Places = 0)) && (!y)) == false) Y Y Y Y fun h => QR (ow Y h) fun hp=>ow Y<|gA h<|gF hp)<|Rq Y (.guarded (((!decide (i.Places = 0)) && (!y)) == false) Y Y Y Y fun h => Zh<|ow Y h)<|Rq Y (.guarded2 ((((!decide (i.Places = 0)) && (!y)) == false) && ((((!decide (i.Low = 0)) || (!decide (i.High = 0))) || (!decide (i.Steps = 0))) == false)) Y Y Y Y fun h => Zc (ov Y) Zc8)<|Rq Y (.guarded2 ((((!decide (i.Places = 0)) && (!y)) == false) && ((((!decide (i.Low = 0)) || (!decide (i.High = 0))) || (!decide (i.Steps = 0))) == false)) Y Y Y Y fun h => Zb (ow Y h) Zit Y)<|Rq Y (.guarded2 ((((!decide (i.Places = 0)) && (!y)) == false) && ((((!decide (i.Low = 0)) || (!decide (i.High = 0))) || (!decide (i.Steps = 0))) == false)) Y Y Y Y fun h => Zj3 (Jg (ow Y h) tZ_136) Zgf<|Zf3 _ _)<|Rq Y (.guarded2 ((((!decide (i.Places = 0)) && (!y)) == false) && ((((!decide (i.Low = 0)) || (!decide (i.High = 0))) || (!decide (i.Steps = 0))) == false)) Y Y Y Y fun h => QP (ow Y h)<|ov Y)<|Rq Y (.guarded (((!decide (i.Places = 0)) && (!y)) == false) Y Y Y Y fun h => QR (ow Y h) fun hp=>ow Y<|gA h<|gF hp)<|Rq Y (.guarded (((!decide (i.Places = 0)) && (!y)) == false) Y Y Y Y fun h => Zh<|ow Y h)<|Rq Y (.guarded2 ((((!decide (i.Places = 0)) && (!y)) == false) && (((((!decide (i.Low = 0)) || (!decide (i.High = 0))) || (!decide (i.Steps = 0))) || (decide (0 < (i.Zones.length : Int)))) == true)) Y Y Y Y fun h => Zh<|ov Y)<|R_q (.when ((((!decide (i.Places = 0)) && (!y)) == false) && (((((!decide (i.Low = 0)) || (!decide (i.High = 0))) || (!decide (i.Steps = 0))) || (decide (0 < (i.Zones.length : Int)))) == true))<|.sl 3<|List.map R3 ([2] : List Int)) Y (.guarded2 ((((!decide (i.Places = 0)) && (!y)) == false) && (((((!decide (i.Low = 0)) || (!decide (i.High = 0))) || (!decide (i.Steps = 0))) || (decide (0 < (i.Zones.length : Int)))) == true)) Y Y Y Y fun h => Jm Jl (.cons (cvs (ov Y)<|ZF Y) Y (.cons (.b Y) .nil) .nil) Y Y)<|bE h fun y2 h_y2 h=>Rq Y (.guarded2 ((((!decide (i.Places = 0)) && (!y)) == false) && (((((!decide (i.Low = 0)) || (!decide (i.High = 0))) || (!decide (i.Steps = 0))) || (decide (0 < (i.Zones.length : Int)))) == true)) Y Y Y Y fun h => Zbq (ow Y h) Y (JC<|gdT h_y2 h)<|.cons (ow Y h) (.b Y) .nil)<|Rq Y (.guarded2 ((((!decide (i.Places = 0)) && (!y)) == false) && (((((!decide (i.Low = 0)) || (!decide (i.High = 0))) || (!decide (i.Steps = 0))) || (decide (0 < (i.Zones.length : Int)))) == true)) Y Y Y Y fun h => Qe<|ow Y h)<|Rq Y (.guarded (((!decide (i.Places = 0)) && (!y)) == false) Y Y Y Y fun h => Z3 (ow Y h) fun hp=>ow Y<|gA h<|gT hp)<|Rq Y (QR (ov Y) fun hp=>ow Y<|gF hp)<|Rm Y<|Rq Y (.guarded ((((!decide (i.Places = 0)) && (!y)) || (((((!decide (i.Low = 0)) || (!decide (i.High = 0))) || (!decide (i.Steps = 0))) || (decide (0 < (i.Zones.length : Int)))) && (!y2))) == false) Y Y Y Y fun h => Zc (ov Y) ZgF)<|Rq Y (.guarded ((((!decide (i.Places = 0)) && (!y)) || (((((!decide (i.Low = 0)) || (!decide (i.High = 0))) || (!decide (i.Steps = 0))) || (decide (0 < (i.Zones.length : Int)))) && (!y2))) == false) Y Y Y Y fun h => Zb (ow Y h) tS3 Y)<|Rq Y (.guarded ((((!decide (i.Places = 0)) && (!y)) || (((((!decide (i.Low = 0)) || (!decide (i.High = 0))) || (!decide (i.Steps = 0))) || (decide (0 < (i.Zones.length : Int)))) && (!y2))) == false) Y Y Y Y fun h => Z0 (ow Y h)<|ov Y)<|Rq Y (.guarded ((((!decide (i.Places = 0)) && (!y)) || (((((!decide (i.Low = 0)) || (!decide (i.High = 0))) || (!decide (i.Steps = 0))) || (decide (0 < (i.Zones.length : Int)))) && (!y2))) == false) Y Y Y Y fun h => Zh<|ow Y h)<|Rq Y (.guarded2 (((((!decide (i.Places = 0)) && (!y)) || (((((!decide (i.Low = 0)) || (!decide (i.High = 0))) || (!decide (i.Steps = 0))) || (decide (0 < (i.Zones.length : Int)))) && (!y2))) == false) && ((!decide (i.Op = 0)) == false)) Y Y Y Y fun h => Zc (ov Y) ZgS)<|Rq Y (.guarded2 (((((!decide (i.Places = 0)) && (!y)) || (((((!decide (i.Low = 0)) || (!decide (i.High = 0))) || (!decide (i.Steps = 0))) || (decide (0 < (i.Zones.length : Int)))) && (!y2))) == false) && ((!decide (i.Op = 0)) == false)) Y Y Y Y fun h => Zb (ow Y h) tS3 Y)<|Rq Y (.guarded2 (((((!decide (i.Places = 0)) && (!y)) || (((((!decide (i.Low = 0)) || (!decide (i.High = 0))) || (!decide (i.Steps = 0))) || (decide (0 < (i.Zones.length : Int)))) && (!y2))) == false) && ((!decide (i.Op = 0)) == false)) Y Y Y Y fun h => Z0 (ow Y h)<|ov Y)<|Rq Y (.guarded ((((!decide (i.Places = 0)) && (!y)) || (((((!decide (i.Low = 0)) || (!decide (i.High = 0))) || (!decide (i.Steps = 0))) || (decide (0 < (i.Zones.length : Int)))) && (!y2))) == false) Y Y Y Y fun h => QR (ow Y h) fun hp=>ow Y<|gA h<|gF hp)<|Rq Y (.guarded ((((!decide (i.Places = 0)) && (!y)) || (((((!decide (i.Low = 0)) || (!decide (i.High = 0))) || (!decide (i.Steps = 0))) || (decide (0 < (i.Zones.length : Int)))) && (!y2))) == false) Y Y Y Y fun h => Zh<|ow Y h)<|Rq Y (.guarded2 (((((!decide (i.Places = 0)) && (!y)) || (((((!decide (i.Low = 0)) || (!decide (i.High = 0))) || (!decide (i.Steps = 0))) || (decide (0 < (i.Zones.length : Int)))) && (!y2))) == false) && (((!decide (i.Op = 0)) || (!decide (i.N = 0))) == true)) Y Y Y Y fun h => Zh<|ov Y)<|R_q (.when (((((!decide (i.Places = 0)) && (!y)) || (((((!decide (i.Low = 0)) || (!decide (i.High = 0))) || (!decide (i.Steps = 0))) || (decide (0 < (i.Zones.length : Int)))) && (!y2))) == false) && (((!decide (i.Op = 0)) || (!decide (i.N = 0))) == true))<|.sl 3<|List.map R3 ([3, 5] : List Int)) Y (.guarded2 (((((!decide (i.Places = 0)) && (!y)) || (((((!decide (i.Low = 0)) || (!decide (i.High = 0))) || (!decide (i.Steps = 0))) || (decide (0 < (i.Zones.length : Int)))) && (!y2))) == false) && (((!decide (i.Op = 0)) || (!decide (i.N = 0))) == true)) Y Y Y Y fun h => Jm Jl (.cons (cvs (ov Y)<|ZF Y) Y (.cons (.b Y) .nil)<|.cons (cvs (ov Y)<|ZF Y) Y (.cons (.b Y) .nil) .nil) Y Y)<|bE h fun y3 h_y3 h=>Rq Y (.guarded2 (((((!decide (i.Places = 0)) && (!y)) || (((((!decide (i.Low = 0)) || (!decide (i.High = 0))) || (!decide (i.Steps = 0))) || (decide (0 < (i.Zones.length : Int)))) && (!y2))) == false) && (((!decide (i.Op = 0)) || (!decide (i.N = 0))) == true)) Y Y Y Y fun h => Zbq (ow Y h) Y (JC<|gdT h_y3 h)<|.cons (ow Y h) (.b Y) .nil)<|Rq Y (.guarded2 (((((!decide (i.Places = 0)) && (!y)) || (((((!decide (i.Low = 0)) || (!decide (i.High = 0))) || (!decide (i.Steps = 0))) || (decide (0 < (i.Zones.length : Int)))) && (!y2))) == false) && (((!decide (i.Op = 0)) || (!decide (i.N = 0))) == true)) Y Y Y Y fun h => Qe<|ow Y h)<|Rq Y (.guarded ((((!decide (i.Places = 0)) && (!y)) || (((((!decide (i.Low = 0)) || (!decide (i.High = 0))) || (!decide (i.Steps = 0))) || (decide (0 < (i.Zones.length : Int)))) && (!y2))) == false) Y Y Y Y fun h => Z3 (ow Y h) fun hp=>ow Y<|gA h<|gT hp)<|Rq Y (QR (ov Y) fun hp=>ow Y<|gF hp)<|Rm Y<|Rq Y (.guarded (((((!decide (i.Places = 0)) && (!y)) || (((((!decide (i.Low = 0)) || (!decide (i.High = 0))) || (!decide (i.Steps = 0))) || (decide (0 < (i.Zones.length : Int)))) && (!y2))) || (((!decide (i.Op = 0)) || (!decide (i.N = 0))) && (!y3))) == false) Y Y Y Y fun h => Zc (ov Y) Zg5)<|Rq Y (.guarded (((((!decide (i.Places = 0)) && (!y)) || (((((!decide (i.Low = 0)) || (!decide (i.High = 0))) || (!decide (i.Steps = 0))) || (decide (0 < (i.Zones.length : Int)))) && (!y2))) || (((!decide (i.Op = 0)) || (!decide (i.N = 0))) && (!y3))) == false) Y Y Y Y fun h => Zb (ow Y h) tS4 Y)<|Rq Y (.guarded (((((!decide (i.Places = 0)) && (!y)) || (((((!decide (i.Low = 0)) || (!decide (i.High = 0))) || (!decide (i.Steps = 0))) || (decide (0 < (i.Zones.length : Int)))) && (!y2))) || (((!decide (i.Op = 0)) || (!decide (i.N = 0))) && (!y3))) == false) Y Y Y Y fun h => Zh<|ow Y h)<|Rq Y (.guarded2 ((((((!decide (i.Places = 0)) && (!y)) || (((((!decide (i.Low = 0)) || (!decide (i.High = 0))) || (!decide (i.Steps = 0))) || (decide (0 < (i.Zones.length : Int)))) && (!y2))) || (((!decide (i.Op = 0)) || (!decide (i.N = 0))) && (!y3))) == false) && (i.Latch == true)) Y Y Y Y fun h => Zh<|ov Y)<|R_q (.when ((((((!decide (i.Places = 0)) && (!y)) || (((((!decide (i.Low = 0)) || (!decide (i.High = 0))) || (!decide (i.Steps = 0))) || (decide (0 < (i.Zones.length : Int)))) && (!y2))) || (((!decide (i.Op = 0)) || (!decide (i.N = 0))) && (!y3))) == false) && (i.Latch == true))<|.sl 3<|List.map R3 ([3] : List Int)) Y (.guarded2 ((((((!decide (i.Places = 0)) && (!y)) || (((((!decide (i.Low = 0)) || (!decide (i.High = 0))) || (!decide (i.Steps = 0))) || (decide (0 < (i.Zones.length : Int)))) && (!y2))) || (((!decide (i.Op = 0)) || (!decide (i.N = 0))) && (!y3))) == false) && (i.Latch == true)) Y Y Y Y fun h => Jm Jl (.cons (cvs (ov Y)<|ZF Y) Y (.cons (.b Y) .nil) .nil) Y Y)<|bE h fun y4 h_y4 h=>Rq Y (.guarded2 ((((((!decide (i.Places = 0)) && (!y)) || (((((!decide (i.Low = 0)) || (!decide (i.High = 0))) || (!decide (i.Steps = 0))) || (decide (0 < (i.Zones.length : Int)))) && (!y2))) || (((!decide (i.Op = 0)) || (!decide (i.N = 0))) && (!y3))) == false) && (i.Latch == true)) Y Y Y Y fun h => Zbq (ow Y h) Y (JC<|gdT h_y4 h)<|.cons (ow Y h) (.b Y) .nil)<|Rq Y (.guarded2 ((((((!decide (i.Places = 0)) && (!y)) || (((((!decide (i.Low = 0)) || (!decide (i.High = 0))) || (!decide (i.Steps = 0))) || (decide (0 < (i.Zones.length : Int)))) && (!y2))) || (((!decide (i.Op = 0)) || (!decide (i.N = 0))) && (!y3))) == false) && (i.Latch == true)) Y Y Y Y fun h => Qe<|ow Y h)<|Rq Y (.guarded (((((!decide (i.Places = 0)) && (!y)) || (((((!decide (i.Low = 0)) || (!decide (i.High = 0))) || (!decide (i.Steps = 0))) || (decide (0 < (i.Zones.length : Int)))) && (!y2))) || (((!decide (i.Op = 0)) || (!decide (i.N = 0))) && (!y3))) == false) Y Y Y Y fun h => Z3 (ow Y h) fun hp=>ow Y<|gA h<|gT hp)<|Rq Y (QR (ov Y) fun hp=>ow Y<|gF hp)<|Rm Y<|Rq Y (.guarded ((((((!decide (i.Places = 0)) && (!y)) || (((((!decide (i.Low = 0)) || (!decide (i.High = 0))) || (!decide (i.Steps = 0))) || (decide (0 < (i.Zones.length : Int)))) && (!y2))) || (((!decide (i.Op = 0)) || (!decide (i.N = 0))) && (!y3))) || (i.Latch && (!y4))) == false) Y Y Y Y fun h => Zc (ov Y) Zd1)<|Rq Y (.guarded ((((((!decide (i.Places = 0)) && (!y)) || (((((!decide (i.Low = 0)) || (!decide (i.High = 0))) || (!decide (i.Steps = 0))) || (decide (0 < (i.Zones.length : Int)))) && (!y2))) || (((!decide (i.Op = 0)) || (!decide (i.N = 0))) && (!y3))) || (i.Latch && (!y4))) == false) Y Y Y Y fun h => Zb (ow Y h) tS3 Y)<|Rq Y (.guarded ((((((!decide (i.Places = 0)) && (!y)) || (((((!decide (i.Low = 0)) || (!decide (i.High = 0))) || (!decide (i.Steps = 0))) || (decide (0 < (i.Zones.length : Int)))) && (!y2))) || (((!decide (i.Op = 0)) || (!decide (i.N = 0))) && (!y3))) || (i.Latch && (!y4))) == false) Y Y Y Y fun h => Z0 (ow Y h)<|ov Y)<|Rq Y (.guarded ((((((!decide (i.Places = 0)) && (!y)) || (((((!decide (i.Low = 0)) || (!decide (i.High = 0))) || (!decide (i.Steps = 0))) || (decide (0 < (i.Zones.length : Int)))) && (!y2))) || (((!decide (i.Op = 0)) || (!decide (i.N = 0))) && (!y3))) || (i.Latch && (!y4))) == false) Y Y Y Y fun h => Zh<|ow Y h)<|Rq Y (.guarded2 (((((((!decide (i.Places = 0)) && (!y)) || (((((!decide (i.Low = 0)) || (!decide (i.High = 0))) || (!decide (i.Steps = 0))) || (decide (0 < (i.Zones.length : Int)))) && (!y2))) || (((!decide (i.Op = 0)) || (!decide (i.N = 0))) && (!y3))) || (i.Latch && (!y4))) == false) && ((!decide (i.Size = 0)) == true)) Y Y Y Y fun h => Zh<|ov Y)<|R_q (.when (((((((!decide (i.Places = 0)) && (!y)) || (((((!decide (i.Low = 0)) || (!decide (i.High = 0))) || (!decide (i.Steps = 0))) || (decide (0 < (i.Zones.length : Int)))) && (!y2))) || (((!decide (i.Op = 0)) || (!decide (i.N = 0))) && (!y3))) || (i.Latch && (!y4))) == false) && ((!decide (i.Size = 0)) == true))<|.sl 3<|List.map R3 ([6] : List Int)) Y (.guarded2 (((((((!decide (i.Places = 0)) && (!y)) || (((((!decide (i.Low = 0)) || (!decide (i.High = 0))) || (!decide (i.Steps = 0))) || (decide (0 < (i.Zones.length : Int)))) && (!y2))) || (((!decide (i.Op = 0)) || (!decide (i.N = 0))) && (!y3))) || (i.Latch && (!y4))) == false) && ((!decide (i.Size = 0)) == true)) Y Y Y Y fun h => Jm Jl (.cons (cvs (ov Y)<|ZF Y) Y (.cons (.b Y) .nil) .nil) Y Y)<|bE h fun y5 h_y5 h=>Rq Y (.guarded2 (((((((!decide (i.Places = 0)) && (!y)) || (((((!decide (i.Low = 0)) || (!decide (i.High = 0))) || (!decide (i.Steps = 0))) || (decide (0 < (i.Zones.length : Int)))) && (!y2))) || (((!decide (i.Op = 0)) || (!decide (i.N = 0))) && (!y3))) || (i.Latch && (!y4))) == false) && ((!decide (i.Size = 0)) == true)) Y Y Y Y fun h => Zbq (ow Y h) Y (JC<|gdT h_y5 h)<|.cons (ow Y h) (.b Y) .nil)<|Rq Y (.guarded2 (((((((!decide (i.Places = 0)) && (!y)) || (((((!decide (i.Low = 0)) || (!decide (i.High = 0))) || (!decide (i.Steps = 0))) || (decide (0 < (i.Zones.length : Int)))) && (!y2))) || (((!decide (i.Op = 0)) || (!decide (i.N = 0))) && (!y3))) || (i.Latch && (!y4))) == false) && ((!decide (i.Size = 0)) == true)) Y Y Y Y fun h => Qe<|ow Y h)<|Rq Y (.guarded ((((((!decide (i.Places = 0)) && (!y)) || (((((!decide (i.Low = 0)) || (!decide (i.High = 0))) || (!decide (i.Steps = 0))) || (decide (0 < (i.Zones.length : Int)))) && (!y2))) || (((!decide (i.Op = 0)) || (!decide (i.N = 0))) && (!y3))) || (i.Latch && (!y4))) == false) Y Y Y Y fun h => Z3 (ow Y h) fun hp=>ow Y<|gA h<|gT hp)<|Rq Y (QR (ov Y) fun hp=>ow Y<|gF hp)<|Ra Y<|Za<|?_
 obtain rfl := rt h
 exact Zg (Zo Y (.one<|rb Y))
theorem ZaC {n : Int} {r : Bool} (h : QL n = some r) :
 CSpec Tryz.prog gl0 126 [.int .i64 n] (.bool r) := by
 unfold QL at h
 replace h := ZP h
 refine So Tryz.func126 Y fun w0 A=>Tr<|Ra Y<|Za<|Tr<|Rm Y<|bE h fun y h_y h=>Rq Y (Zj (Qm h_y)<|.cons (ov Y) (.b Y)<|.cons (ov Y) (.b Y)<|.cons (ov Y) (.b Y) .nil)<|Ra Y<|Za<|?_
 obtain rfl := rt h
 exact Zg (Zo Y (.one<|rb Y))
theorem ZgW {i : api_Instrument} {r : Int} (h : XV i = some r) :
 CSpec Tryz.prog gl0 138 [.agg [.int .i64 i.Kind, .str i.Name, .str i.Track, .int .i64 i.Places, .int .i64 i.Low, .int .i64 i.High, .int .i64 i.Steps, .sl 136 (List.map R136 i.Zones), .int .i64 i.Op, .int .i64 i.N, .bool i.Latch, .int .i64 i.Size]] (.int .i64 r) := by
 unfold XV at h
 replace h := ZP h
 refine So Tryz.func138 Y fun w0 A=>Tr<|Rq Y (ZB (cva<|ov Y) Y tZ_49 Y)<|Ra Y<|Za<|Zl<|Zm<|K1 1 Y<|Tr<|Rq Y (Zc (ov Y) Zc9)<|Rq Y (Zb (ov Y) tS3 Y)<|Rq Y (Zc (ov Y) Zep)<|Rq Y (Zb (ov Y) tS3 Y)<|R2 JT Y<|Rm Y<|Rq Y (.guarded ((decide (i.High ≤ i.Low)) == false) Y Y Y Y fun h => Zc (ov Y) Zc9)<|Rq Y (.guarded ((decide (i.High ≤ i.Low)) == false) Y Y Y Y fun h => Zb (ow Y h) tS3 Y)<|bE h fun y h_y h=>Rq Y (.guarded ((decide (i.High ≤ i.Low)) == false) Y Y Y Y fun h => Zj (ZaC<|gdT h_y h)<|.cons (ow Y h) (.b Y) .nil)<|Rq Y (.guarded ((decide (i.High ≤ i.Low)) == false) Y Y Y Y fun h => Qe<|ow Y h)<|Rq Y (QR (ov Y) fun hp=>ow Y<|gF hp)<|Rm Y<|Rq Y (.guarded (((decide (i.High ≤ i.Low)) || (!y)) == false) Y Y Y Y fun h => Zc (ov Y) Zep)<|Rq Y (.guarded (((decide (i.High ≤ i.Low)) || (!y)) == false) Y Y Y Y fun h => Zb (ow Y h) tS3 Y)<|bE h fun y2 h_y2 h=>Rq Y (.guarded (((decide (i.High ≤ i.Low)) || (!y)) == false) Y Y Y Y fun h => Zj (ZaC<|gdT h_y2 h)<|.cons (ow Y h) (.b Y) .nil)<|Rq Y (.guarded (((decide (i.High ≤ i.Low)) || (!y)) == false) Y Y Y Y fun h => Qe<|ow Y h)<|Rq Y (QR (ov Y) fun hp=>ow Y<|gF hp)<|Rm Y<|Rq Y (.guarded ((((decide (i.High ≤ i.Low)) || (!y)) || (!y2)) == false) Y Y Y Y fun h => Zc (ov Y) ZfR)<|Rq Y (.guarded ((((decide (i.High ≤ i.Low)) || (!y)) || (!y2)) == false) Y Y Y Y fun h => Zb (ow Y h) tS3 Y)<|bE h fun y3 h_y3 h=>Rq Y (.guarded ((((decide (i.High ≤ i.Low)) || (!y)) || (!y2)) == false) Y Y Y Y fun h => Zj (Qm<|gdT h_y3 h)<|.cons (ow Y h) (.b Y)<|.cons (ov Y) (.b Y)<|.cons (ov Y) (.b Y) .nil)<|Rq Y (.guarded ((((decide (i.High ≤ i.Low)) || (!y)) || (!y2)) == false) Y Y Y Y fun h => Qe<|ow Y h)<|Rq Y (QR (ov Y) fun hp=>ow Y<|gF hp)<|Ra Y<|Za<|K2 1 5 Y<|If h Y (fun h=>?_) fun h=>?_
 ·
  refine K0<|Tr<|Ra Y<|Za<|?_
  obtain rfl := rt h
  exact Zg (Zo Y (.one<|rb Y))
 ·
  refine K1 1 Y<|Tr<|Rq Y (Zc (ov Y) Zc8)<|Rq Y (Zb (ov Y) Zit Y)<|Rl tZ_136 Zgf Y<|R2 QP Y<|Ra Y<|Za<|K2 1 29 Y<|If h Y (fun h=>?_) fun h=>?_
  ·
   refine K0<|Tr<|Ra Y<|Za<|?_
   obtain rfl := rt h
   exact Zg (Zo Y (.one<|rb Y))
  ·
   refine Ze<|J0 (fun j => (.inr j)) ⟨[], []⟩ h (fun h=>?_) fun h=>?_
   ·
    refine K1 1 Y<|Tr<|Rq Y (Zc (ov Y) Zc8)<|Rq Y (Zb (ov Y) Zit Y)<|Rl tZ_136 Zgf Y<|Rm Y<|Za<|Zm<|?_
    obtain ⟨r1, hl1, ho1⟩ := Xt h
    refine L1 (fun i2=>⟨[(1, .rp [.int .i64 i.Kind, .str i.Name, .str i.Track, .int .i64 i.Places, .int .i64 i.Low, .int .i64 i.High, .int .i64 i.Steps, .sl 136 (List.map R136 i.Zones), .int .i64 i.Op, .int .i64 i.N, .bool i.Latch, .int .i64 i.Size] 0), (35, .sl 136 (List.map R136 i.Zones)), (36, .int .i64 (i.Zones.length : Int)), (37, .int .i64 i2)], []⟩) hl1 (ES []) fun n1 i2 h=>?_
    unfold QH at h
    refine Tr<|R2 Z8 Y<|Za<|Zl<|If h Y (fun h=>?_) fun h=>?_
    ·
     refine Ze<|Zl<|Zm<|K4 1 35 36 37 Y<|Tr<|Rm Y<|bE h fun x h_x h=>Rq Y (ZJ (ov Y) (ov Y) Zgf h_x)<|Rq Y (Zi (ov Y) ZhX Y Y)<|Rx Y (ZC (row := [_, _, _]) 0 Y ZlE Y tZ_136)<|Ra Y<|Rx Y (Zk (ov Y) (ov Y) (Zn ZhX Y) Y Y Y (Nat.le_of_ble_eq_true Y) (Zd Y) Y)<|Za<|Zm<|K6 1 3 4 35 36 37 Y<|Tr<|Rq Y (Zf (ov Y) Y Y ZiE)<|Rq Y (Zt (ov Y) Y Y Y tS9 Y)<|bE h fun y4 h_y4 h=>Rq Y (Zj (Zff h_y4)<|.cons (ov Y) (.b Y) .nil)<|R1 Qe Y<|Ra Y<|Za<|K7 1 3 4 35 36 37 42 Y<|If h Y (fun h=>?_) fun h=>?_
     ·
      refine K0<|Tr<|Ra Y<|Za<|?_
      replace h := lx h ▸ ho1
      obtain rfl := rt h
      exact Zg (Zo Y (.one<|rb Y))
     ·
      refine K6 1 3 4 35 36 37 Y<|Tr<|Rq Y (Zf (ov Y) Y Y Zf0)<|Rq Y (Zt (ov Y) Y Y Y tS3 Y)<|Rq Y (Zf (ov Y) Y Y Zf4)<|Rq Y (Zt (ov Y) Y Y Y tS3 Y)<|R2 QP Y<|Ra Y<|Za<|K7 1 3 4 35 36 37 47 Y<|If h Y (fun h=>?_) fun h=>?_
      ·
       refine K0<|Tr<|Ra Y<|Za<|?_
       replace h := lx h ▸ ho1
       obtain rfl := rt h
       exact Zg (Zo Y (.one<|rb Y))
      ·
       refine K6 1 3 4 35 36 37 Y<|Td md0<|D1 0 Zh Y<|D2 1 QP Y<|D1 2 Zh Y<|Dq 3 Y (.guarded ((decide (0 < i2)) == true) Y Y Y Y fun h => Zf (ov Y) Y Y Zf0)<|Dq 4 Y (.guarded ((decide (0 < i2)) == true) Y Y Y Y fun h => Zt (ow Y h) Y Y Y tS3 Y)<|Dq 5 Y (.guarded ((decide (0 < i2)) == true) Y Y Y Y fun h => Zc (ov Y) Zc8)<|Dq 6 Y (.guarded ((decide (0 < i2)) == true) Y Y Y Y fun h => Zb (ow Y h) Zit Y)<|Dq 7 Y (.guarded ((decide (0 < i2)) == true) Y Y Y Y fun h => Zh<|ov Y)<|Dq 8 Y (.guarded ((decide (0 < i2)) == true) Y Y Y Y fun h => Zho (ow Y h) (ov Y) Y)<|bE h fun x2 h_x2 h=>Dq 9 Y (.guarded ((decide (0 < i2)) == true) Y Y Y Y fun h => ZJ (ow Y h) (ow Y h) Zgf<|gdT h_x2 h)<|Dq 10 Y (.guarded ((decide (0 < i2)) == true) Y Y Y Y fun h => Zc (ow Y h) Zf4)<|Dq 11 Y (.guarded ((decide (0 < i2)) == true) Y Y Y Y fun h => Zb (ow Y h) tS3 Y)<|Dq 12 Y (.guarded ((decide (0 < i2)) == true) Y Y Y Y fun h => ZaM (ow Y h)<|ow Y h)<|Dq 13 Y (Z3 (ov Y) fun hp=>ow Y<|gT hp)<|D1 14 QN Y<|Dd<|K5 1 35 36 37 53 Y<|If h Y (fun h=>?_) fun h=>?_
       ·
        refine K0<|Tr<|Ra Y<|Za<|?_
        replace h := lx h ▸ ho1
        obtain rfl := rt h
        exact Zg (Zo Y (.one<|rb Y))
       ·
        exact Ze<|K4 1 35 36 37 Y<|Zx<|R2 QG Y<|Rm Y<|Za<|⟨_, h, ES []⟩
    ·
     refine ZM<|?_
     replace h := lx h ▸ ho1
     exact ⟨(), h, ES []⟩
   ·
    replace h := elr h
    replace h := t0i h
    refine Tr<|Ra Y<|Za<|?_
    obtain rfl := rt h
    exact Zg (Zo Y (.one<|rb Y))
theorem Zek {i : api_Instrument} {r : Int} (h : Qz i = some r) :
 CSpec Tryz.prog gl0 97 [.agg [.int .i64 i.Kind, .str i.Name, .str i.Track, .int .i64 i.Places, .int .i64 i.Low, .int .i64 i.High, .int .i64 i.Steps, .sl 136 (List.map R136 i.Zones), .int .i64 i.Op, .int .i64 i.N, .bool i.Latch, .int .i64 i.Size]] (.int .i64 r) := by
 unfold Qz at h
 replace h := ZP h
 refine So Tryz.func97 Y fun w0 A=>Tr<|Rq Y (ZB (cva<|ov Y) Y tZ_49 Y)<|Ra Y<|Za<|Zl<|Zm<|K1 1 Y<|Tr<|Rq Y (Zc (ov Y) Q5)<|Rq Y (Zb (ov Y) tS3 Y)<|bE h fun y h_y h=>Rq Y (Zj (Qm h_y)<|.cons (ov Y) (.b Y)<|.cons (ov Y) (.b Y)<|.cons (ov Y) (.b Y) .nil)<|R1 Qe Y<|Ra Y<|Za<|K2 1 3 Y<|If h Y (fun h=>?_) fun h=>?_
 ·
  refine K0<|Tr<|Ra Y<|Za<|?_
  obtain rfl := rt h
  exact Zg (Zo Y (.one<|rb Y))
 ·
  refine K1 1 Y<|Tr<|Rq Y (Zc (ov Y) ZfS)<|Rq Y (Zb (ov Y) tS9 Y)<|bE h fun y2 h_y2 h=>Rq Y (Zj (Zff h_y2)<|.cons (ov Y) (.b Y) .nil)<|R1 Qe Y<|Rm Y<|Rq Y (.guarded ((!y2) == false) Y Y Y Y fun h => Zc (ov Y) ZgB)<|Rq Y (.guarded ((!y2) == false) Y Y Y Y fun h => Zb (ow Y h) tS9 Y)<|Rq Y (.guarded ((!y2) == false) Y Y Y Y fun h => Qs (ow Y h) Qf Y)<|bE h fun y3 h_y3 h=>Rq Y (.guarded ((!y2) == false) Y Y Y Y fun h => Zj (Qm<|gdT h_y3 h)<|.cons (ow Y h) (.b Y)<|.cons (ov Y) (.b Y)<|.cons (ov Y) (.b Y) .nil)<|Rq Y (.guarded ((!y2) == false) Y Y Y Y fun h => Qe<|ow Y h)<|Rq Y (QR (ov Y) fun hp=>ow Y<|gF hp)<|Ra Y<|Za<|K2 1 8 Y<|If h Y (fun h=>?_) fun h=>?_
  ·
   refine K0<|Tr<|Ra Y<|Za<|?_
   obtain rfl := rt h
   exact Zg (Zo Y (.one<|rb Y))
  ·
   refine K1 1 Y<|Tr<|Rq Y (Zi (ov Y) Zaf Y Y)<|bE h fun y4 h_y4 h=>Rq Y (Zj (Zig h_y4)<|.cons (ov Y) (.aggB Y) .nil)<|Ra Y<|Za<|K2 1 20 Y<|If h Y (fun h=>?_) fun h=>?_
   ·
    refine K0<|Tr<|Ra Y<|Za<|?_
    obtain rfl := rt h
    exact Zg (Zo Y (.one<|rb Y))
   ·
    refine K1 1 Y<|Tr<|Rq Y (Zc (ov Y) Zdt)<|Rq Y (Zb (ov Y) tS3 Y)<|bE h fun y5 h_y5 h=>Rq Y (Zj (Qm h_y5)<|.cons (ov Y) (.b Y)<|.cons (ov Y) (.b Y)<|.cons (ov Y) (.b Y) .nil)<|R1 Qe Y<|Ra Y<|Za<|K2 1 23 Y<|If h Y (fun h=>?_) fun h=>?_
    ·
     refine K0<|Tr<|Ra Y<|Za<|?_
     obtain rfl := rt h
     exact Zg (Zo Y (.one<|rb Y))
    ·
     refine Ze<|Zl<|K1 1 Y<|Tr<|Rq Y (Zc (ov Y) Q5)<|Rq Y (Zb (ov Y) tS3 Y)<|Za<|Zm<|K2 1 29 Y<|Tr<|R2 ZY Y<|Ra Y<|Za<|K3 1 29 30 Y<|If h Y (fun h=>?_) fun h=>?_
     ·
      refine K1 1 Y<|Tr<|Rq Y (Zi (ov Y) Zaf Y Y)<|bE h fun y6 h_y6 h=>Rq Y (Zj (ZgW h_y6)<|.cons (ov Y) (.aggB Y) .nil)<|Ra Y<|Za<|?_
      obtain rfl := rt h
      exact Zg (Zo Y (.one<|rb Y))
     ·
      refine I1 (fun v=>⟨[(1, .rp [.int .i64 i.Kind, .str i.Name, .str i.Track, .int .i64 i.Places, .int .i64 i.Low, .int .i64 i.High, .int .i64 i.Steps, .sl 136 (List.map R136 i.Zones), .int .i64 i.Op, .int .i64 i.N, .bool i.Latch, .int .i64 i.Size] 0), (29, .int .i64 i.Kind), (34, .bool v)], []⟩) h (fun h=>?_) fun v h=>?_
      ·
       refine K2 1 29 Y<|Tr<|R2 ZY Y<|Ra Y<|Za<|K3 1 29 34 Y<|If h Y (fun h=>?_) fun h=>?_
       ·
        exact Ze<|⟨_, h, ES []⟩
       ·
        exact Zx<|R2 ZY Y<|Ra Y<|Za<|⟨_, h, ES []⟩
      ·
       refine If h Y (fun h=>?_) fun h=>?_
       ·
        refine Zl<|K1 1 Y<|Tr<|Rq Y (Zc (ov Y) ZgF)<|Rq Y (Zb (ov Y) tS3 Y)<|bE h fun y7 h_y7 h=>Rq Y (Zj (Qm h_y7)<|.cons (ov Y) (.b Y)<|.cons (ov Y) (.b Y)<|.cons (ov Y) (.b Y) .nil)<|R1 Qe Y<|Za<|K2 1 40 Y<|If h Y (fun h=>?_) fun h=>?_
        ·
         refine K0<|Tr<|Ra Y<|Za<|?_
         obtain rfl := rt h
         exact Zg (Zo Y (.one<|rb Y))
        ·
         refine Ze<|K1 1 Y<|Tr<|Rq Y (Zc (ov Y) ZgS)<|Rq Y (Zb (ov Y) tS3 Y)<|bE h fun y8 h_y8 h=>Rq Y (Zj (ZaC h_y8)<|.cons (ov Y) (.b Y) .nil)<|R1 Qe Y<|Za<|K1 44 Y<|If h Y (fun h=>?_) fun h=>?_
         ·
          refine K0<|Tr<|Ra Y<|Za<|?_
          obtain rfl := rt h
          exact Zg (Zo Y (.one<|rb Y))
         ·
          refine Ze<|K0<|Tr<|Ra Y<|Za<|?_
          obtain rfl := rt h
          exact Zg (Zo Y (.one<|rb Y))
       ·
        refine K2 1 29 Y<|Tr<|R2 ZY Y<|Ra Y<|Za<|K2 1 45 Y<|If h Y (fun h=>?_) fun h=>?_
        ·
         refine K1 1 Y<|Tr<|Rq Y (Zc (ov Y) Zd1)<|Rq Y (Zb (ov Y) tS3 Y)<|bE h fun y9 h_y9 h=>Rq Y (Zj (Qm h_y9)<|.cons (ov Y) (.b Y)<|.cons (ov Y) (.b Y)<|.cons (ov Y) (.b Y) .nil)<|R1 Qe Y<|Za<|K1 50 Y<|If h Y (fun h=>?_) fun h=>?_
         ·
          refine K0<|Tr<|Ra Y<|Za<|?_
          obtain rfl := rt h
          exact Zg (Zo Y (.one<|rb Y))
         ·
          refine Ze<|K0<|Tr<|Ra Y<|Za<|?_
          obtain rfl := rt h
          exact Zg (Zo Y (.one<|rb Y))
        ·
         refine Ze<|K0<|Tr<|Ra Y<|Za<|?_
         obtain rfl := rt h
         exact Zg (Zo Y (.one<|rb Y))
theorem Jj {s : List api_Instrument} {f : api_Instrument → Option Bool} {r : Int} {f_f : FuncId} {f_c : List AV} (f_d : f_c.all datB = true) (f_h : ∀ (z0 : api_Instrument) z, f z0 = some z → CSpec Tryz.prog gl0 f_f ([.agg [.int .i64 z0.Kind, .str z0.Name, .str z0.Track, .int .i64 z0.Places, .int .i64 z0.Low, .int .i64 z0.High, .int .i64 z0.Steps, .sl 136 (List.map R136 z0.Zones), .int .i64 z0.Op, .int .i64 z0.N, .bool z0.Latch, .int .i64 z0.Size]] ++ f_c) (.bool z)) (h : ZG s f = some r) :
 CSpec Tryz.prog gl0 115 [.sl 49 (List.map R49 s), .fn f_f f_c] (.int .i64 r) := by
 unfold ZG at h
 replace h := ZP h
 refine So Tryz.func115 Y fun w0 A=>Tr<|Ra Y<|Za<|J0 (fun j => (.inr j)) ⟨[], []⟩ h (fun h=>?_) fun h=>?_
 ·
  refine K2 0 1 Y<|Tr<|Rm Y<|Rl tZ_49 Zar Y<|Rm Y<|Za<|Zm<|?_
  obtain ⟨r1, hl1, ho1⟩ := Xt h
  refine L1 (fun i=>⟨[(0, .sl 49 (List.map R49 s)), (1, .fn f_f f_c), (7, .int .i64 (s.length : Int)), (8, .int .i64 i)], []⟩) hl1 (ES []<|sd 0 Y Y<|sr 1 Y (rFn<|rld f_d)<|sd 7 Y Y<|sd 8 Y Y sn) fun n1 i h=>?_
  unfold Zv at h
  refine Tr<|R2 Z8 Y<|Za<|Zl<|If h Y (fun h=>?_) fun h=>?_
  ·
   refine Ze<|Zl<|Zm<|K4 0 1 7 8 Y<|Tr<|Rm Y<|Ra Y<|Za<|K5 0 1 5 7 8 Y<|Tr<|Rm Y<|Rm Y<|Rm Y<|bE h fun x h_x h=>Rq Y (ZJ (ov Y) (ov Y) Zar h_x)<|Rq Y (Zi (ov Y) Zaf Y Y)<|bE h fun y h_y h=>Rq Y (Zbq (ov Y) f_d (f_h _ _ h_y)<|.cons (ov Y) (.aggB Y) .nil)<|Za<|K6 0 1 5 7 8 16 Y<|If h Y (fun h=>?_) fun h=>?_
   ·
    refine K1 5 Y<|Tr<|Rm Y<|Ra Y<|Za<|?_
    replace h := lx h ▸ ho1
    obtain rfl := rt h
    exact Zg (Zo Y (.one<|rb Y))
   ·
    exact Ze<|K4 0 1 7 8 Y<|Zx<|R2 QG Y<|Rm Y<|Za<|⟨_, h, ES []<|sd 0 Y Y<|sr 1 Y (rFn<|rld f_d)<|sd 7 Y Y<|sd 8 Y Y sn⟩
  ·
   refine ZM<|?_
   replace h := lx h ▸ ho1
   exact ⟨(), h, ES []⟩
 ·
  replace h := elr h
  replace h := t0i h
  refine Tr<|Ra Y<|Za<|?_
  obtain rfl := rt h
  exact Zg (Zo Y (.one<|rb Y))
theorem QA {s : List api_Instrument} {f : api_Instrument → Option Bool} {r : Bool} {f_f : FuncId} {f_c : List AV} (f_d : f_c.all datB = true) (f_h : ∀ (z0 : api_Instrument) z, f z0 = some z → CSpec Tryz.prog gl0 f_f ([.agg [.int .i64 z0.Kind, .str z0.Name, .str z0.Track, .int .i64 z0.Places, .int .i64 z0.Low, .int .i64 z0.High, .int .i64 z0.Steps, .sl 136 (List.map R136 z0.Zones), .int .i64 z0.Op, .int .i64 z0.N, .bool z0.Latch, .int .i64 z0.Size]] ++ f_c) (.bool z)) (h : Zp s f = some r) :
 CSpec Tryz.prog gl0 76 [.sl 49 (List.map R49 s), .fn f_f f_c] (.bool r) := by
 unfold Zp at h
 replace h := ZP h
 refine So Tryz.func76 Y fun w0 A=>Tr<|Ra Y<|Za<|Tr<|Rm Y<|Rm Y<|bE h fun y h_y h=>Rq Y (Zj (Jj f_d f_h h_y)<|.cons (ov Y) (.b Y)<|.cons (ov Y) (Dat.fnC<|.refl fun x hx => .b<|List.all_eq_true.1 f_d x hx) .nil)<|R2 JT Y<|Ra Y<|Za<|?_
 obtain rfl := rt h
 exact Zg (Zo Y (.one<|rb Y))
theorem Zhr {x : api_Instrument} {c0 : api_Instrument} {r : Bool} (h : ZaQ x c0 = some r) :
 CSpec Tryz.prog gl0 98 [.agg [.int .i64 x.Kind, .str x.Name, .str x.Track, .int .i64 x.Places, .int .i64 x.Low, .int .i64 x.High, .int .i64 x.Steps, .sl 136 (List.map R136 x.Zones), .int .i64 x.Op, .int .i64 x.N, .bool x.Latch, .int .i64 x.Size], .rp [.int .i64 c0.Kind, .str c0.Name, .str c0.Track, .int .i64 c0.Places, .int .i64 c0.Low, .int .i64 c0.High, .int .i64 c0.Steps, .sl 136 (List.map R136 c0.Zones), .int .i64 c0.Op, .int .i64 c0.N, .bool c0.Latch, .int .i64 c0.Size] 0] (.bool r) := by
 unfold ZaQ at h
 replace h := ZP h
 refine So Tryz.func98 Y fun w0 A=>Tr<|Rq Y (ZB (cva<|ov Y) Y tZ_49 Y)<|Ra Y<|Za<|K3 1 2 3 Y<|Tr<|Rq Y (Zc (ov Y) ZfS)<|Rq Y (Zb (ov Y) tS9 Y)<|Rq Y (Zc (ov Y) ZfS)<|Rq Y (Zb (ov Y) tS9 Y)<|R2 Qk Y<|Ra Y<|Za<|?_
 obtain rfl := rt h
 exact Zg (Zo Y (.one<|rb Y))
theorem Zdx {p : api_Panel} {r : Int} (h : JH p = some r) :
 CSpec Tryz.prog gl0 53 [.agg [.sl 49 (List.map R49 p.Instruments)]] (.int .i64 r) := by
 unfold JH at h
 replace h := ZP h
 refine So Tryz.func53 Y fun w0 A=>Tr<|Rq Y (ZB (cva<|ov Y) Y tZ_24 Y)<|Ra Y<|Za<|Zl<|K1 1 Y<|Tr<|Rq Y (Zc (ov Y) XO)<|Rq Y (Zb (ov Y) ZcQ Y)<|Rl tZ_49 Zar Y<|R2 QP Y<|Za<|K2 1 9 Y<|If h Y (fun h=>?_) fun h=>?_
 ·
  refine K0<|Tr<|Ra Y<|Za<|?_
  obtain rfl := rt h
  exact Zg (Zo Y (.one<|rb Y))
 ·
  refine Ze<|J0 (fun j => (.inr j)) ⟨[], []⟩ h (fun h=>?_) fun h=>?_
  ·
   refine K1 1 Y<|Tr<|Rq Y (Zc (ov Y) XO)<|Rq Y (Zb (ov Y) ZcQ Y)<|Rl tZ_49 Zar Y<|Rm Y<|Za<|Zm<|?_
   obtain ⟨r1, hl1, ho1⟩ := Xt h
   refine L1 (fun i=>⟨[(1, .rp [.sl 49 (List.map R49 p.Instruments)] 0), (11, .sl 49 (List.map R49 p.Instruments)), (12, .int .i64 (p.Instruments.length : Int)), (13, .int .i64 i)], []⟩) hl1 (ES []) fun n1 i h=>?_
   unfold XN at h
   refine Tr<|R2 Z8 Y<|Za<|Zl<|If h Y (fun h=>?_) fun h=>?_
   ·
    refine Ze<|Zl<|Zm<|K4 1 11 12 13 Y<|Tr<|Rm Y<|bE h fun x h_x h=>Rq Y (ZJ (ov Y) (ov Y) Zar h_x)<|Rq Y (Zi (ov Y) Zaf Y Y)<|Rx Y (ZC (row := [_, _, _, _, _, _, _, _, _, _, _, _]) 0 Y Zjy Y tZ_49)<|Ra Y<|Rx Y (Zk (ov Y) (ov Y) (Zn Zaf Y) Y Y Y (Nat.le_of_ble_eq_true Y) (Zd Y) Y)<|Za<|Zl<|K6 1 3 4 11 12 13 Y<|Tr<|Rq Y (ZW (ov Y) Y Y Y Zaf Y Y)<|bE h fun y h_y h=>Rq Y (Zj (Zek h_y)<|.cons (ov Y) (.aggB Y) .nil)<|Ra Y<|Za<|K7 1 3 4 5 11 12 13 Y<|Tr<|Rm Y<|R2 Z0 Y<|Za<|K8 1 3 4 5 11 12 13 21 Y<|If h Y (fun h=>?_) fun h=>?_
    ·
     refine K1 5 Y<|Tr<|Rm Y<|Ra Y<|Za<|?_
     replace h := lx h ▸ ho1
     obtain rfl := rt h
     exact Zg (Zo Y (.one<|rb Y))
    ·
     refine Ze<|K6 1 3 4 11 12 13 Y<|Tr<|Rq Y (Zc (ov Y) XO)<|Rq Y (Zb (ov Y) ZcQ Y)<|Rm Y<|bE h fun l h_l h=>Rq Y (ZfN (ov Y) Zar on (oi<|ov Y) h_l)<|ZkS (Ent.sel [none] (sd 1 Y Y<|sd 3 Y Y<|sr 4 Y (.frp ⟨Y, ⟨_, Y⟩, Y, Y⟩)<|sd 11 Y Y<|sd 12 Y Y<|sd 13 Y Y<|sd 23 Y Y<|sd 24 Y Y<|sd 25 Y Y<|sd 26 Y Y sn) (.row 49 .nil) Y Y)<|Rq Y (ZdS<|.cons (ov Y) .nil)<|bE h fun y2 h_y2 h=>Rq Y (Zj (QA Y (fun z0 _ hz=>Zhr hz) h_y2)<|.cons (ov Y) (.b Y)<|.cons (ov Y) (.fnC<|.cons (.b Y) .nil) .nil)<|Za<|K5 1 11 12 13 28 Y<|If h Y (fun h=>?_) fun h=>?_
     ·
      refine K0<|Tr<|Ra Y<|Za<|?_
      replace h := lx h ▸ ho1
      obtain rfl := rt h
      exact Zg (Zo Y (.one<|rb Y))
     ·
      exact Ze<|K4 1 11 12 13 Y<|Zx<|R2 QG Y<|Rm Y<|Za<|⟨_, h, ES []⟩
   ·
    refine ZM<|?_
    replace h := lx h ▸ ho1
    exact ⟨(), h, ES []⟩
  ·
   replace h := elr h
   replace h := t0i h
   refine Tr<|Ra Y<|Za<|?_
   obtain rfl := rt h
   exact Zg (Zo Y (.one<|rb Y))
theorem Zfg {n : Int} {low : Int} {high : Int} {r : Bool} (h : JI n low high = some r) :
 CSpec Tryz.prog gl0 114 [.int .i64 n, .int .i64 low, .int .i64 high] (.bool r) := by
 unfold JI at h
 replace h := ZP h
 refine So Tryz.func114 Y fun w0 A=>Tr<|Ra Y<|Za<|Tr<|Rm Y<|Rm Y<|R2 JT Y<|Rm Y<|Rq Y (.guarded ((decide (low ≤ n)) == true) Y Y Y Y fun h => Zh<|ov Y)<|Rq Y (.guarded ((decide (low ≤ n)) == true) Y Y Y Y fun h => Zh<|ov Y)<|Rq Y (.guarded ((decide (low ≤ n)) == true) Y Y Y Y fun h => ZaM (ow Y h)<|ow Y h)<|Rq Y (Z3 (ov Y) fun hp=>ow Y<|gT hp)<|Ra Y<|Za<|?_
 obtain rfl := rt h
 exact Zg (Zo Y (.one<|rb Y))
theorem Ziw {s : Str} {r : Bool} (h : Zap s = some r) :
 CSpec Tryz.prog gl0 148 [.str s] (.bool r) := by
 unfold Zap at h
 replace h := ZP h
 refine So Tryz.func148 Y fun w0 A=>Tr<|Ra Y<|Za<|Zl<|K1 0 Y<|Tr<|Rm Y<|Za<|Zm<|I1 (fun v=>⟨[(4, .bool v)], []⟩) h (fun h=>?_) fun v h=>?_
 ·
  refine K1 3 Y<|Tr<|R2 Qk Y<|Ra Y<|Za<|K2 3 4 Y<|ZgT h Y (fun b4 h=>?_) fun b4 h=>?_
  ·
   exact Ze<|⟨_, h, ES []⟩
  ·
   refine Tr<|R2 Qk Y<|Ra Y<|Za<|K2 3 4 Y<|ZgT h Y (fun b4 h=>?_) fun b4 h=>?_
   ·
    exact Ze<|⟨_, h, ES []⟩
   ·
    refine Tr<|R2 Qk Y<|Ra Y<|Za<|K2 3 4 Y<|ZgT h Y (fun b4 h=>?_) fun b4 h=>?_
    ·
     exact Ze<|⟨_, h, ES []⟩
    ·
     refine Tr<|R2 Qk Y<|Ra Y<|Za<|K2 3 4 Y<|ZgT h Y (fun b4 h=>?_) fun b4 h=>?_
     ·
      exact Ze<|⟨_, h, ES []⟩
     ·
      refine Tr<|R2 Qk Y<|Ra Y<|Za<|K2 3 4 Y<|ZgT h Y (fun b4 h=>?_) fun b4 h=>?_
      ·
       exact Ze<|⟨_, h, ES []⟩
      ·
       refine Tr<|R2 Qk Y<|Ra Y<|Za<|K2 3 4 Y<|ZgT h Y (fun b4 h=>?_) fun b4 h=>?_
       ·
        exact Ze<|⟨_, h, ES []⟩
       ·
        refine Tr<|R2 Qk Y<|Ra Y<|Za<|K2 3 4 Y<|ZgT h Y (fun b4 h=>?_) fun b4 h=>?_
        ·
         exact Ze<|⟨_, h, ES []⟩
        ·
         refine Tr<|R2 Qk Y<|Ra Y<|Za<|K2 3 4 Y<|ZgT h Y (fun b4 h=>?_) fun b4 h=>?_
         ·
          exact Ze<|⟨_, h, ES []⟩
         ·
          refine Tr<|R2 Qk Y<|Ra Y<|Za<|K2 3 4 Y<|ZgT h Y (fun b4 h=>?_) fun b4 h=>?_
          ·
           exact Ze<|⟨_, h, ES []⟩
          ·
           refine Tr<|R2 Qk Y<|Ra Y<|Za<|K2 3 4 Y<|ZgT h Y (fun b4 h=>?_) fun b4 h=>?_
           ·
            exact Ze<|⟨_, h, ES []⟩
           ·
            refine Tr<|R2 Qk Y<|Ra Y<|Za<|K2 3 4 Y<|ZgT h Y (fun b4 h=>?_) fun b4 h=>?_
            ·
             exact Ze<|⟨_, h, ES []⟩
            ·
             refine Tr<|R2 Qk Y<|Ra Y<|Za<|K2 3 4 Y<|ZgT h Y (fun b4 h=>?_) fun b4 h=>?_
             ·
              exact Ze<|⟨_, h, ES []⟩
             ·
              refine Tr<|R2 Qk Y<|Ra Y<|Za<|K2 3 4 Y<|ZgT h Y (fun b4 h=>?_) fun b4 h=>?_
              ·
               exact Ze<|⟨_, h, ES []⟩
              ·
               refine Tr<|R2 Qk Y<|Ra Y<|Za<|K2 3 4 Y<|ZgT h Y (fun b4 h=>?_) fun b4 h=>?_
               ·
                exact Ze<|⟨_, h, ES []⟩
               ·
                refine Tr<|R2 Qk Y<|Ra Y<|Za<|K2 3 4 Y<|If h Y (fun h=>?_) fun h=>?_
                ·
                 exact Ze<|⟨_, h, ES []⟩
                ·
                 exact Zx<|R2 Qk Y<|Ra Y<|Za<|⟨_, h, ES []⟩
 ·
  refine If h Y (fun h=>?_) fun h=>?_
  ·
   refine K0<|Tr<|Ra Y<|Za<|?_
   obtain rfl := rt h
   exact Zg (Zo Y (.one<|rb Y))
  ·
   refine Ze<|K0<|Tr<|Ra Y<|Za<|?_
   obtain rfl := rt h
   exact Zg (Zo Y (.one<|rb Y))
theorem ZgX {c_ : Int} {r : Bool} (h : JY c_ = some r) :
 CSpec Tryz.prog gl0 149 [.int .u8 c_] (.bool r) := by
 unfold JY at h
 replace h := ZP h
 refine So Tryz.func149 Y fun w0 A=>Tr<|Ra Y<|Za<|Tr<|Rm Y<|R2 JT Y<|Rm Y<|Rq Y (.guarded ((decide (97 ≤ c_)) == true) Y Y Y Y fun h => Zh<|ov Y)<|Rq Y (.guarded ((decide (97 ≤ c_)) == true) Y Y Y Y fun h => ZaM (ow Y h)<|ov Y)<|Rq Y (Z3 (ov Y) fun hp=>ow Y<|gT hp)<|Rm Y<|Rq Y (.guarded (((decide (97 ≤ c_)) && (decide (c_ ≤ 122))) == false) Y Y Y Y fun h => Zh<|ov Y)<|Rq Y (.guarded (((decide (97 ≤ c_)) && (decide (c_ ≤ 122))) == false) Y Y Y Y fun h => JT (ow Y h)<|ov Y)<|Rq Y (.guarded (((decide (97 ≤ c_)) && (decide (c_ ≤ 122))) == false) Y Y Y Y fun h => Zh<|ow Y h)<|Rq Y (.guarded2 ((((decide (97 ≤ c_)) && (decide (c_ ≤ 122))) == false) && ((decide (48 ≤ c_)) == true)) Y Y Y Y fun h => Zh<|ov Y)<|Rq Y (.guarded2 ((((decide (97 ≤ c_)) && (decide (c_ ≤ 122))) == false) && ((decide (48 ≤ c_)) == true)) Y Y Y Y fun h => ZaM (ow Y h)<|ov Y)<|Rq Y (.guarded (((decide (97 ≤ c_)) && (decide (c_ ≤ 122))) == false) Y Y Y Y fun h => Z3 (ow Y h) fun hp=>ow Y<|gA h<|gT hp)<|Rq Y (QR (ov Y) fun hp=>ow Y<|gF hp)<|Rm Y<|Rq Y (.guarded ((((decide (97 ≤ c_)) && (decide (c_ ≤ 122))) || ((decide (48 ≤ c_)) && (decide (c_ ≤ 57)))) == false) Y Y Y Y fun h => Zh<|ov Y)<|Rq Y (.guarded ((((decide (97 ≤ c_)) && (decide (c_ ≤ 122))) || ((decide (48 ≤ c_)) && (decide (c_ ≤ 57)))) == false) Y Y Y Y fun h => ZY (ow Y h)<|ov Y)<|Rq Y (QR (ov Y) fun hp=>ow Y<|gF hp)<|Ra Y<|Za<|?_
 obtain rfl := rt h
 exact Zg (Zo Y (.one<|rb Y))
theorem Ziy {s : Str} {r : Bool} (h : Zav s = some r) :
 CSpec Tryz.prog gl0 110 [.str s] (.bool r) := by
 unfold Zav at h
 replace h := ZP h
 refine So Tryz.func110 Y fun w0 A=>Tr<|Ra Y<|Za<|Zl<|K1 0 Y<|Tr<|Rm Y<|Rq Y (Qs (ov Y) Qf Y)<|bE h fun y h_y h=>Rq Y (Zj (Zfg h_y)<|.cons (ov Y) (.b Y)<|.cons (ov Y) (.b Y)<|.cons (ov Y) (.b Y) .nil)<|R1 Qe Y<|Rm Y<|Rq Y (.guarded ((!y) == false) Y Y Y Y fun h => Zh<|ov Y)<|bE h fun b h_b h=>Rq Y (.guarded ((!y) == false) Y Y Y Y fun h => Xg (ow Y h) (ov Y) Qf<|gdT h_b h)<|Rq Y (.guarded ((!y) == false) Y Y Y Y fun h => Z8 (ow Y h)<|ov Y)<|Rq Y (QR (ov Y) fun hp=>ow Y<|gF hp)<|Rm Y<|Rq Y (.guarded (((!y) || (decide (b < 97))) == false) Y Y Y Y fun h => Zh<|ov Y)<|bE h fun b2 h_b2 h=>Rq Y (.guarded (((!y) || (decide (b < 97))) == false) Y Y Y Y fun h => Xg (ow Y h) (ov Y) Qf<|gdT h_b2 h)<|Rq Y (.guarded (((!y) || (decide (b < 97))) == false) Y Y Y Y fun h => QP (ow Y h)<|ov Y)<|Rq Y (QR (ov Y) fun hp=>ow Y<|gF hp)<|Rm Y<|Rq Y (.guarded ((((!y) || (decide (b < 97))) || (decide (122 < b2))) == false) Y Y Y Y fun h => Zh<|ov Y)<|bE h fun y2 h_y2 h=>Rq Y (.guarded ((((!y) || (decide (b < 97))) || (decide (122 < b2))) == false) Y Y Y Y fun h => Zj (Ziw<|gdT h_y2 h)<|.cons (ow Y h) (.b Y) .nil)<|Rq Y (QR (ov Y) fun hp=>ow Y<|gF hp)<|Za<|K2 0 21 Y<|If h Y (fun h=>?_) fun h=>?_
 ·
  refine K0<|Tr<|Ra Y<|Za<|?_
  obtain rfl := rt h
  exact Zg (Zo Y (.one<|rb Y))
 ·
  refine Ze<|J0 (fun j => (.inr j)) ⟨[], []⟩ h (fun h=>?_) fun h=>?_
  ·
   refine K1 0 Y<|Tr<|Rm Y<|Rq Y (Qs (ov Y) Qf Y)<|Rm Y<|Za<|Zm<|?_
   obtain ⟨r1, hl1, ho1⟩ := Xt h
   refine L1 (fun i=>⟨[(0, .str s), (23, .int .i64 (s.length : Int)), (24, .int .i64 i)], []⟩) hl1 (ES []) fun n1 i h=>?_
   unfold Xm at h
   refine Tr<|R2 Z8 Y<|Za<|Zl<|If h Y (fun h=>?_) fun h=>?_
   ·
    refine Ze<|Zl<|Zm<|K3 0 23 24 Y<|Tr<|Rm Y<|Ra Y<|Za<|K4 0 3 23 24 Y<|Tr<|Rm Y<|Rm Y<|bE h fun b3 h_b3 h=>Rq Y (Xg (ov Y) (ov Y) Qf h_b3)<|bE h fun y3 h_y3 h=>Rq Y (Zj (ZgX h_y3)<|.cons (ov Y) (.b Y) .nil)<|R1 Qe Y<|Za<|K4 0 23 24 31 Y<|If h Y (fun h=>?_) fun h=>?_
    ·
     refine K0<|Tr<|Ra Y<|Za<|?_
     replace h := lx h ▸ ho1
     obtain rfl := rt h
     exact Zg (Zo Y (.one<|rb Y))
    ·
     exact Ze<|K3 0 23 24 Y<|Zx<|R2 QG Y<|Rm Y<|Za<|⟨_, h, ES []⟩
   ·
    refine ZM<|?_
    replace h := lx h ▸ ho1
    exact ⟨(), h, ES []⟩
  ·
   replace h := elr h
   replace h := t0i h
   refine Tr<|Ra Y<|Za<|?_
   obtain rfl := rt h
   exact Zg (Zo Y (.one<|rb Y))
theorem Xx {s : List api_Track} {f : api_Track → Option Bool} {r : Int} {f_f : FuncId} {f_c : List AV} (f_d : f_c.all datB = true) (f_h : ∀ (z0 : api_Track) z, f z0 = some z → CSpec Tryz.prog gl0 f_f ([.agg [.str z0.Name, .int .i64 z0.Series.Den, .sl 56 (List.map R56 z0.Series.Samples), .int .i64 z0.Long]] ++ f_c) (.bool z)) (h : ZH s f = some r) :
 CSpec Tryz.prog gl0 116 [.sl 54 (List.map R54 s), .fn f_f f_c] (.int .i64 r) := by
 unfold ZH at h
 replace h := ZP h
 refine So Tryz.func116 Y fun w0 A=>Tr<|Ra Y<|Za<|J0 (fun j => (.inr j)) ⟨[], []⟩ h (fun h=>?_) fun h=>?_
 ·
  refine K2 0 1 Y<|Tr<|Rm Y<|Rl tZ_54 Zdl Y<|Rm Y<|Za<|Zm<|?_
  obtain ⟨r1, hl1, ho1⟩ := Xt h
  refine L1 (fun i=>⟨[(0, .sl 54 (List.map R54 s)), (1, .fn f_f f_c), (7, .int .i64 (s.length : Int)), (8, .int .i64 i)], []⟩) hl1 (ES []<|sd 0 Y Y<|sr 1 Y (rFn<|rld f_d)<|sd 7 Y Y<|sd 8 Y Y sn) fun n1 i h=>?_
  unfold Zs at h
  refine Tr<|R2 Z8 Y<|Za<|Zl<|If h Y (fun h=>?_) fun h=>?_
  ·
   refine Ze<|Zl<|Zm<|K4 0 1 7 8 Y<|Tr<|Rm Y<|Ra Y<|Za<|K5 0 1 5 7 8 Y<|Tr<|Rm Y<|Rm Y<|Rm Y<|bE h fun x h_x h=>Rq Y (ZJ (ov Y) (ov Y) Zdl h_x)<|Rq Y (Zi (ov Y) ZeQ Y Y)<|bE h fun y h_y h=>Rq Y (Zbq (ov Y) f_d (f_h _ _ h_y)<|.cons (ov Y) (.aggB Y) .nil)<|Za<|K6 0 1 5 7 8 16 Y<|If h Y (fun h=>?_) fun h=>?_
   ·
    refine K1 5 Y<|Tr<|Rm Y<|Ra Y<|Za<|?_
    replace h := lx h ▸ ho1
    obtain rfl := rt h
    exact Zg (Zo Y (.one<|rb Y))
   ·
    exact Ze<|K4 0 1 7 8 Y<|Zx<|R2 QG Y<|Rm Y<|Za<|⟨_, h, ES []<|sd 0 Y Y<|sr 1 Y (rFn<|rld f_d)<|sd 7 Y Y<|sd 8 Y Y sn⟩
  ·
   refine ZM<|?_
   replace h := lx h ▸ ho1
   exact ⟨(), h, ES []⟩
 ·
  replace h := elr h
  replace h := t0i h
  refine Tr<|Ra Y<|Za<|?_
  obtain rfl := rt h
  exact Zg (Zo Y (.one<|rb Y))
theorem Zao {s : List api_Track} {f : api_Track → Option Bool} {r : Bool} {f_f : FuncId} {f_c : List AV} (f_d : f_c.all datB = true) (f_h : ∀ (z0 : api_Track) z, f z0 = some z → CSpec Tryz.prog gl0 f_f ([.agg [.str z0.Name, .int .i64 z0.Series.Den, .sl 56 (List.map R56 z0.Series.Samples), .int .i64 z0.Long]] ++ f_c) (.bool z)) (h : ZD s f = some r) :
 CSpec Tryz.prog gl0 111 [.sl 54 (List.map R54 s), .fn f_f f_c] (.bool r) := by
 unfold ZD at h
 replace h := ZP h
 refine So Tryz.func111 Y fun w0 A=>Tr<|Ra Y<|Za<|Tr<|Rm Y<|Rm Y<|bE h fun y h_y h=>Rq Y (Zj (Xx f_d f_h h_y)<|.cons (ov Y) (.b Y)<|.cons (ov Y) (Dat.fnC<|.refl fun x hx => .b<|List.all_eq_true.1 f_d x hx) .nil)<|R2 JT Y<|Ra Y<|Za<|?_
 obtain rfl := rt h
 exact Zg (Zo Y (.one<|rb Y))
theorem Ze4 {x : api_Track} {c0 : api_Track} {r : Bool} (h : Xk x c0 = some r) :
 CSpec Tryz.prog gl0 112 [.agg [.str x.Name, .int .i64 x.Series.Den, .sl 56 (List.map R56 x.Series.Samples), .int .i64 x.Long], .rp [.str c0.Name, .int .i64 c0.Series.Den, .sl 56 (List.map R56 c0.Series.Samples), .int .i64 c0.Long] 0] (.bool r) := by
 unfold Xk at h
 replace h := ZP h
 refine So Tryz.func112 Y fun w0 A=>Tr<|Rq Y (ZB (cva<|ov Y) Y tZ_54 Y)<|Ra Y<|Za<|K3 1 2 3 Y<|Tr<|Rq Y (Zc (ov Y) ZfM)<|Rq Y (Zb (ov Y) tS9 Y)<|Rq Y (Zc (ov Y) ZfM)<|Rq Y (Zb (ov Y) tS9 Y)<|R2 Qk Y<|Ra Y<|Za<|?_
 obtain rfl := rt h
 exact Zg (Zo Y (.one<|rb Y))
theorem Zbp {n : Int} {low : Int} {high : Int} {r : Bool} (h : Xz n low high = some r) :
 CSpec Tryz.prog gl0 164 [.int .i64 n, .int .i64 low, .int .i64 high] (.bool r) := by
 unfold Xz at h
 replace h := ZP h
 refine So Tryz.func164 Y fun w0 A=>Tr<|Ra Y<|Za<|Tr<|Rm Y<|Rm Y<|R2 JT Y<|Rm Y<|Rq Y (.guarded ((decide (low ≤ n)) == true) Y Y Y Y fun h => Zh<|ov Y)<|Rq Y (.guarded ((decide (low ≤ n)) == true) Y Y Y Y fun h => Zh<|ov Y)<|Rq Y (.guarded ((decide (low ≤ n)) == true) Y Y Y Y fun h => ZaM (ow Y h)<|ow Y h)<|Rq Y (Z3 (ov Y) fun hp=>ow Y<|gT hp)<|Ra Y<|Za<|?_
 obtain rfl := rt h
 exact Zg (Zo Y (.one<|rb Y))
theorem Zid {s : api_Series} {r : Int × Int} (h : Zau s = some r) :
 CSpec Tryz.prog gl0 150 [.agg [.int .i64 s.Den, .sl 56 (List.map R56 s.Samples)]] (.tuple [.int .i64 r.1, .int .i64 r.2]) := by
 unfold Zau at h
 replace h := ZP h
 refine So Tryz.func150 Y fun w0 A=>Tr<|Rq Y (ZB (cva<|ov Y) Y tZ_52 Y)<|Ra Y<|Ra Y<|Za<|Zl<|K1 1 Y<|Tr<|Rq Y (Zc (ov Y) Zkh)<|Rq Y (Zb (ov Y) tS3 Y)<|bE h fun y h_y h=>Rq Y (Zj (Zbp h_y)<|.cons (ov Y) (.b Y)<|.cons (ov Y) (.b Y)<|.cons (ov Y) (.b Y) .nil)<|R1 Qe Y<|Za<|K2 1 9 Y<|If h Y (fun h=>?_) fun h=>?_
 ·
  refine K0<|Tr<|Ra Y<|Ra Y<|Za<|?_
  obtain rfl := rt h
  exact Zg (Zo Y (.two (rb Y)<|rb Y))
 ·
  refine Ze<|Zl<|K1 1 Y<|Tr<|Rq Y (Zc (ov Y) Za8)<|Rq Y (Zb (ov Y) Zfx Y)<|Rl tZ_56 Zer Y<|R2 QP Y<|Za<|K2 1 13 Y<|If h Y (fun h=>?_) fun h=>?_
  ·
   refine K0<|Tr<|Ra Y<|Ra Y<|Za<|?_
   obtain rfl := rt h
   exact Zg (Zo Y (.two (rb Y)<|rb Y))
  ·
   refine Ze<|J0 (fun j => (.inr j)) ⟨[], []⟩ h (fun h=>?_) fun h=>?_
   ·
    refine K1 1 Y<|Tr<|Rq Y (Zc (ov Y) Za8)<|Rq Y (Zb (ov Y) Zfx Y)<|Rl tZ_56 Zer Y<|Rm Y<|Za<|Zm<|?_
    obtain ⟨r1, hl1, ho1⟩ := Xt h
    refine L1 (fun i=>⟨[(1, .rp [.int .i64 s.Den, .sl 56 (List.map R56 s.Samples)] 0), (15, .sl 56 (List.map R56 s.Samples)), (16, .int .i64 (s.Samples.length : Int)), (17, .int .i64 i)], []⟩) hl1 (ES []) fun n1 i h=>?_
    unfold XX at h
    refine Tr<|R2 Z8 Y<|Za<|Zl<|If h Y (fun h=>?_) fun h=>?_
    ·
     refine Ze<|Zl<|Zm<|K4 1 15 16 17 Y<|Tr<|Rm Y<|bE h fun x h_x h=>Rq Y (ZJ (ov Y) (ov Y) Zer h_x)<|Rq Y (Zi (ov Y) Jq Y Y)<|Rx Y (ZC (row := [_, _, _]) 0 Y ZdU Y tZ_56)<|Ra Y<|Rx Y (Zk (ov Y) (ov Y) (Zn Jq Y) Y Y Y (Nat.le_of_ble_eq_true Y) (Zd Y) Y)<|Za<|Zm<|K6 1 4 5 15 16 17 Y<|Tr<|Rq Y (Zf (ov Y) Y Y Zem)<|Rq Y (Zt (ov Y) Y Y Y tS3 Y)<|bE h fun y2 h_y2 h=>Rq Y (Zj (Zbp h_y2)<|.cons (ov Y) (.b Y)<|.cons (ov Y) (.b Y)<|.cons (ov Y) (.b Y) .nil)<|R1 Qe Y<|Rm Y<|Rq Y (.guarded ((!y2) == false) Y Y Y Y fun h => Zf (ov Y) Y Y Zbj)<|Rq Y (.guarded ((!y2) == false) Y Y Y Y fun h => Zt (ow Y h) Y Y Y tS3 Y)<|bE h fun y3 h_y3 h=>Rq Y (.guarded ((!y2) == false) Y Y Y Y fun h => Zj (Zbp<|gdT h_y3 h)<|.cons (ow Y h) (.b Y)<|.cons (ov Y) (.b Y)<|.cons (ov Y) (.b Y) .nil)<|Rq Y (.guarded ((!y2) == false) Y Y Y Y fun h => Qe<|ow Y h)<|Rq Y (QR (ov Y) fun hp=>ow Y<|gF hp)<|Rm Y<|Rq Y (.guarded (((!y2) || (!y3)) == false) Y Y Y Y fun h => Zf (ov Y) Y Y ZfO)<|Rq Y (.guarded (((!y2) || (!y3)) == false) Y Y Y Y fun h => Zt (ow Y h) Y Y Y tS3 Y)<|bE h fun y4 h_y4 h=>Rq Y (.guarded (((!y2) || (!y3)) == false) Y Y Y Y fun h => Zj (Zbp<|gdT h_y4 h)<|.cons (ow Y h) (.b Y)<|.cons (ov Y) (.b Y)<|.cons (ov Y) (.b Y) .nil)<|Rq Y (.guarded (((!y2) || (!y3)) == false) Y Y Y Y fun h => Qe<|ow Y h)<|Rq Y (QR (ov Y) fun hp=>ow Y<|gF hp)<|Ra Y<|Za<|K7 1 4 5 15 16 17 22 Y<|If h Y (fun h=>?_) fun h=>?_
     ·
      refine K1 4 Y<|Tr<|Rm Y<|Ra Y<|Ra Y<|Za<|?_
      replace h := lx h ▸ ho1
      obtain rfl := rt h
      exact Zg (Zo Y (.two (rb Y)<|rb Y))
     ·
      refine K6 1 4 5 15 16 17 Y<|Tr<|Rq Y (Zf (ov Y) Y Y Zbj)<|Rq Y (Zt (ov Y) Y Y Y tS3 Y)<|R2 Z0 Y<|Rm Y<|Rq Y (.guarded ((!decide (x.N = 0)) == true) Y Y Y Y fun h => Zf (ov Y) Y Y ZfO)<|Rq Y (.guarded ((!decide (x.N = 0)) == true) Y Y Y Y fun h => Zt (ow Y h) Y Y Y tS3 Y)<|Rq Y (.guarded ((!decide (x.N = 0)) == true) Y Y Y Y fun h => ZaM (ow Y h)<|ov Y)<|Rq Y (Z3 (ov Y) fun hp=>ow Y<|gT hp)<|Ra Y<|Za<|K7 1 4 5 15 16 17 40 Y<|If h Y (fun h=>?_) fun h=>?_
      ·
       refine K1 4 Y<|Tr<|Rm Y<|Ra Y<|Ra Y<|Za<|?_
       replace h := lx h ▸ ho1
       obtain rfl := rt h
       exact Zg (Zo Y (.two (rb Y)<|rb Y))
      ·
       refine K6 1 4 5 15 16 17 Y<|Td md0<|D1 0 Zh Y<|D2 1 QP Y<|D1 2 Zh Y<|Dq 3 Y (.guarded ((decide (0 < i)) == true) Y Y Y Y fun h => Zf (ov Y) Y Y Zem)<|Dq 4 Y (.guarded ((decide (0 < i)) == true) Y Y Y Y fun h => Zt (ow Y h) Y Y Y tS3 Y)<|Dq 5 Y (.guarded ((decide (0 < i)) == true) Y Y Y Y fun h => Zc (ov Y) Za8)<|Dq 6 Y (.guarded ((decide (0 < i)) == true) Y Y Y Y fun h => Zb (ow Y h) Zfx Y)<|Dq 7 Y (.guarded ((decide (0 < i)) == true) Y Y Y Y fun h => Zh<|ov Y)<|Dq 8 Y (.guarded ((decide (0 < i)) == true) Y Y Y Y fun h => Zho (ow Y h) (ov Y) Y)<|bE h fun x2 h_x2 h=>Dq 9 Y (.guarded ((decide (0 < i)) == true) Y Y Y Y fun h => ZJ (ow Y h) (ow Y h) Zer<|gdT h_x2 h)<|Dq 10 Y (.guarded ((decide (0 < i)) == true) Y Y Y Y fun h => Zc (ow Y h) Zem)<|Dq 11 Y (.guarded ((decide (0 < i)) == true) Y Y Y Y fun h => Zb (ow Y h) tS3 Y)<|Dq 12 Y (.guarded ((decide (0 < i)) == true) Y Y Y Y fun h => ZaM (ow Y h)<|ow Y h)<|Dq 13 Y (Z3 (ov Y) fun hp=>ow Y<|gT hp)<|D1 14 QN Y<|Dd<|K6 1 4 15 16 17 50 Y<|If h Y (fun h=>?_) fun h=>?_
       ·
        refine K1 4 Y<|Tr<|Rm Y<|Ra Y<|Ra Y<|Za<|?_
        replace h := lx h ▸ ho1
        obtain rfl := rt h
        exact Zg (Zo Y (.two (rb Y)<|rb Y))
       ·
        exact Ze<|K4 1 15 16 17 Y<|Zx<|R2 QG Y<|Rm Y<|Za<|⟨_, h, ES []⟩
    ·
     refine ZM<|?_
     replace h := lx h ▸ ho1
     exact ⟨(), h, ES []⟩
   ·
    replace h := elr h
    replace h := t0i h
    refine Tr<|Ra Y<|Ra Y<|Za<|?_
    obtain rfl := rt h
    exact Zg (Zo Y (.two (rb Y)<|rb Y))
theorem ZiA {s : api_Series} {r : Int} (h : Zaz s = some r) :
 CSpec Tryz.prog gl0 113 [.agg [.int .i64 s.Den, .sl 56 (List.map R56 s.Samples)]] (.int .i64 r) := by
 unfold Zaz at h
 replace h := ZP h
 refine So Tryz.func113 Y fun w0 A=>Tr<|Rq Y (ZB (cva<|ov Y) Y tZ_52 Y)<|Ra Y<|Za<|K1 1 Y<|Tr<|Rq Y (Zi (ov Y) Zju Y Y)<|bE h fun y h_y h=>Rq Y (Zj (Zid h_y)<|.cons (ov Y) (.aggB Y) .nil)<|Rm Y<|Rq Y (Zu (ov Y) Y)<|Rq Y (Zu (ov Y) Y)<|Ra Y<|Ra Y<|Za<|K1 4 Y<|Tr<|Rm Y<|Ra Y<|Za<|?_
 obtain rfl := rt h
 exact Zg (Zo Y (.one<|rb Y))
theorem Zfv {l : List api_Track} {r : Int} (h : Xc l = some r) :
 CSpec Tryz.prog gl0 75 [.sl 54 (List.map R54 l)] (.int .i64 r) := by
 unfold Xc at h
 replace h := ZP h
 refine So Tryz.func75 Y fun w0 A=>Tr<|Ra Y<|Za<|Zl<|K1 0 Y<|Tr<|Rm Y<|Rl tZ_54 Zdl Y<|R2 QP Y<|Za<|K2 0 8 Y<|If h Y (fun h=>?_) fun h=>?_
 ·
  refine K0<|Tr<|Ra Y<|Za<|?_
  obtain rfl := rt h
  exact Zg (Zo Y (.one<|rb Y))
 ·
  refine Ze<|J0 (fun j => (.inr j)) ⟨[], []⟩ h (fun h=>?_) fun h=>?_
  ·
   refine K1 0 Y<|Tr<|Rm Y<|Rl tZ_54 Zdl Y<|Rm Y<|Za<|Zm<|?_
   obtain ⟨r1, hl1, ho1⟩ := Xt h
   refine L1 (fun i=>⟨[(0, .sl 54 (List.map R54 l)), (9, .sl 54 (List.map R54 l)), (10, .int .i64 (l.length : Int)), (11, .int .i64 i)], []⟩) hl1 (ES []) fun n1 i h=>?_
   unfold Qr at h
   refine Tr<|R2 Z8 Y<|Za<|Zl<|If h Y (fun h=>?_) fun h=>?_
   ·
    refine Ze<|Zl<|Zm<|K4 0 9 10 11 Y<|Tr<|Rm Y<|bE h fun x h_x h=>Rq Y (ZJ (ov Y) (ov Y) Zdl h_x)<|Rq Y (Zi (ov Y) ZeQ Y Y)<|Rx Y (ZC (row := [_, _, _, _]) 0 Y Zkr Y tZ_54)<|Ra Y<|Rx Y (Zk (ov Y) (ov Y) (Zn ZeQ Y) Y Y Y (Nat.le_of_ble_eq_true Y) (Zd Y) Y)<|Za<|Zl<|K6 0 3 4 9 10 11 Y<|Tr<|Rq Y (Zf (ov Y) Y Y ZfM)<|Rq Y (Zt (ov Y) Y Y Y tS9 Y)<|bE h fun y h_y h=>Rq Y (Zj (Ziy h_y)<|.cons (ov Y) (.b Y) .nil)<|R1 Qe Y<|Za<|K7 0 3 4 9 10 11 19 Y<|If h Y (fun h=>?_) fun h=>?_
    ·
     refine K0<|Tr<|Ra Y<|Za<|?_
     replace h := lx h ▸ ho1
     obtain rfl := rt h
     exact Zg (Zo Y (.one<|rb Y))
    ·
     refine Ze<|Zl<|K6 0 3 4 9 10 11 Y<|Tr<|Rm Y<|Rm Y<|bE h fun l2 h_l2 h=>Rq Y (ZfN (ov Y) Zdl on (oi<|ov Y) h_l2)<|ZkS (Ent.sel [none] (sd 0 Y Y<|sd 3 Y Y<|sr 4 Y (.frp ⟨Y, ⟨_, Y⟩, Y, Y⟩)<|sd 9 Y Y<|sd 10 Y Y<|sd 11 Y Y<|sd 20 Y Y<|sd 21 Y Y<|sd 22 Y Y sn) (.row 54 .nil) Y Y)<|Rq Y (ZdS<|.cons (ov Y) .nil)<|bE h fun y2 h_y2 h=>Rq Y (Zj (Zao Y (fun z0 _ hz=>Ze4 hz) h_y2)<|.cons (ov Y) (.b Y)<|.cons (ov Y) (.fnC<|.cons (.b Y) .nil) .nil)<|Za<|K6 0 4 9 10 11 24 Y<|If h Y (fun h=>?_) fun h=>?_
     ·
      refine K0<|Tr<|Ra Y<|Za<|?_
      replace h := lx h ▸ ho1
      obtain rfl := rt h
      exact Zg (Zo Y (.one<|rb Y))
     ·
      refine Ze<|Zl<|K5 0 4 9 10 11 Y<|Tr<|Rq Y (Zc (ov Y) ZfE)<|Rq Y (Zi (ov Y) Zju Y Y)<|bE h fun y3 h_y3 h=>Rq Y (Zj (ZiA h_y3)<|.cons (ov Y) (.aggB Y) .nil)<|Ra Y<|Za<|K6 0 4 5 9 10 11 Y<|Tr<|Rm Y<|R2 Z0 Y<|Za<|K7 0 4 5 9 10 11 29 Y<|If h Y (fun h=>?_) fun h=>?_
      ·
       refine K1 5 Y<|Tr<|Rm Y<|Ra Y<|Za<|?_
       replace h := lx h ▸ ho1
       obtain rfl := rt h
       exact Zg (Zo Y (.one<|rb Y))
      ·
       refine Ze<|K5 0 4 9 10 11 Y<|Tr<|Rq Y (Zc (ov Y) Zj9)<|Rq Y (Zb (ov Y) tS3 Y)<|bE h fun y4 h_y4 h=>Rq Y (Zj (Zfg h_y4)<|.cons (ov Y) (.b Y)<|.cons (ov Y) (.b Y)<|.cons (ov Y) (.b Y) .nil)<|R1 Qe Y<|Za<|K5 0 9 10 11 34 Y<|If h Y (fun h=>?_) fun h=>?_
       ·
        refine K0<|Tr<|Ra Y<|Za<|?_
        replace h := lx h ▸ ho1
        obtain rfl := rt h
        exact Zg (Zo Y (.one<|rb Y))
       ·
        exact Ze<|K4 0 9 10 11 Y<|Zx<|R2 QG Y<|Rm Y<|Za<|⟨_, h, ES []⟩
   ·
    refine ZM<|?_
    replace h := lx h ▸ ho1
    exact ⟨(), h, ES []⟩
  ·
   replace h := elr h
   replace h := t0i h
   refine Tr<|Ra Y<|Za<|?_
   obtain rfl := rt h
   exact Zg (Zo Y (.one<|rb Y))
end Go.Proofs.YtailpehcgelmdaaGreatDoor
