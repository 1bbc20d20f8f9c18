/- A text of the proof: a verified executor of the program form, or the contracts of the functions that the law reaches. -/
import Derived.Test.YtjfoenlooacoiaaDoorVS
import Derived.Test.YtjfoenlooacoiaaDoorPA
import Derived.Test.YtjfoenlooacoiaaDoorShT
import Derived.Test.YtjfoenlooacoiaaDoorProg
import Derived.Test.YtjfoenlooacoiaaDoorLayT
set_option linter.all false
namespace Go.Proofs.YtjfoenlooacoiaaDoor
open Go Go.Vx
set_option maxRecDepth 10000
set_option maxHeartbeats 1000000
set_option linter.unusedVariables false
theorem tZ_5 : Tryd.prog.cellsOf 5 = 1 := by kernel_rfl
instance : SzD Tryd.prog 5 1 := ⟨tZ_5⟩
theorem tZ_47 : Tryd.prog.cellsOf 47 = 1 := by kernel_rfl
instance : SzD Tryd.prog 47 1 := ⟨tZ_47⟩
theorem tZ_3 : Tryd.prog.cellsOf 3 = 1 := by kernel_rfl
instance : SzD Tryd.prog 3 1 := ⟨tZ_3⟩
theorem tZ_4 : Tryd.prog.cellsOf 4 = 1 := by kernel_rfl
instance : SzD Tryd.prog 4 1 := ⟨tZ_4⟩
theorem tZ_43 : Tryd.prog.cellsOf 43 = 5 := by kernel_rfl
instance : SzD Tryd.prog 43 5 := ⟨tZ_43⟩
theorem Qs : tSl Tryd.prog 32 3 1 8 = true := by kernel_rfl
theorem tZ3 : JH Tryd.prog 3 = some [.int .i64 0] := by kernel_rfl
theorem tS3 : tScal Tryd.prog 3 = true := by kernel_rfl
theorem Ze1 : JH Tryd.prog 28 = some [.int .u16 0, .int .u16 0, .int .u16 0, .int .u16 0, .int .u16 0, .int .u16 0, .int .u16 0, .int .u16 0, .int .u16 0, .int .u16 0, .int .u16 0, .int .u16 0, .int .u16 0, .int .u16 0, .int .u16 0, .int .u16 0, .int .u16 0, .int .u16 0, .int .u16 0, .int .u16 0, .int .u16 0, .int .u16 0, .int .u16 0, .int .u16 0, .int .u16 0, .int .u16 0, .int .u16 0, .int .u16 0, .int .u16 0, .int .u16 0, .int .u16 0, .int .u16 0, .int .u16 0, .int .u16 0, .int .u16 0, .int .u16 0, .int .u16 0, .int .u16 0, .int .u16 0, .int .u16 0, .int .u16 0, .int .u16 0, .int .u16 0, .int .u16 0, .int .u16 0, .int .u16 0, .int .u16 0, .int .u16 0, .int .u16 0, .int .u16 0, .int .u16 0, .int .u16 0, .int .u16 0, .int .u16 0, .int .u16 0, .int .u16 0, .int .u16 0, .int .u16 0, .int .u16 0, .int .u16 0, .int .u16 0, .int .u16 0, .int .u16 0, .int .u16 0] := by kernel_rfl
theorem tZ_28 : Tryd.prog.cellsOf 28 = 64 := by kernel_rfl
instance : SzD Tryd.prog 28 64 := ⟨tZ_28⟩
theorem ZaI : tArr Tryd.prog 28 64 26 1 = true := by kernel_rfl
theorem JG : tAgg Tryd.prog 28 64 = true := by kernel_rfl
theorem tI3 : tInt Tryd.prog 3 .i64 = true := by kernel_rfl
theorem Zg8 : tInt Tryd.prog 26 .u16 = true := by kernel_rfl
theorem Znb : tStr Tryd.prog 9 = true := by kernel_rfl
theorem tI5 : tInt Tryd.prog 5 .u8 = true := by kernel_rfl
theorem ZaW : tScal Tryd.prog 26 = true := by kernel_rfl
theorem Zoj : tArr Tryd.prog 74 4 26 1 = true := by kernel_rfl
theorem tB4 : (match Tryd.prog.underlying 4 with | some .bool => true | _ => false) = true := by kernel_rfl
theorem JV : tSl Tryd.prog 22 43 5 88 = true := by kernel_rfl
theorem J7 : tAgg Tryd.prog 43 5 = true := by kernel_rfl
theorem Zgs : JH Tryd.prog 43 = some [.int .i64 0, .int .i64 0, .slice none 0 0, .slice none 0 0, .slice none 0 0] := by kernel_rfl
theorem Jp : tFld Tryd.prog 43 2 2 = true := by kernel_rfl
theorem Zc5 : tScal Tryd.prog 40 = true := by kernel_rfl
theorem ZbQ : tSl Tryd.prog 40 47 1 24 = true := by kernel_rfl
theorem Zd2 : tFld Tryd.prog 43 0 0 = true := by kernel_rfl
theorem Zfx : tFld Tryd.prog 43 1 1 = true := by kernel_rfl
theorem ZbO : tFld Tryd.prog 43 3 3 = true := by kernel_rfl
theorem Zf7 : tScal Tryd.prog 32 = true := by kernel_rfl
theorem Zc7 : tFld Tryd.prog 43 4 4 = true := by kernel_rfl
theorem Zhf : tScal Tryd.prog 41 = true := by kernel_rfl
theorem Zh1 : tSl Tryd.prog 41 4 1 1 = true := by kernel_rfl
theorem ZeU : tScal Tryd.prog 47 = true := by kernel_rfl
theorem XJ : tSl Tryd.prog 47 5 1 1 = true := by kernel_rfl
theorem tS4 : tScal Tryd.prog 4 = true := by kernel_rfl
theorem tS5 : tScal Tryd.prog 5 = true := by kernel_rfl
theorem Zfi : tSl Tryd.prog 25 28 64 128 = true := by kernel_rfl
theorem ZoC : Zci Tryd.prog 80 = some [(0, 2), (2, 1), (3, 1), (4, 1), (5, 1), (6, 1)] := by kernel_rfl
theorem Zok : ZeL Tryd.prog 80 = true := by kernel_rfl
theorem Zpj : JH Tryd.prog 80 = some [.slice none 0 0, .slice none 0 0, .int .i64 0, .bool false, .bool false, .int .i64 0, .bool false] := by kernel_rfl
theorem Zpc : tAgg Tryd.prog 80 7 = true := by kernel_rfl
theorem ZnP : (match Tryd.prog.underlying 47 with | some (.slice _) => true | _ => false) = true := by kernel_rfl
theorem Zoh : (match Tryd.prog.underlying 32 with | some (.slice _) => true | _ => false) = true := by kernel_rfl
theorem Zod : (match Tryd.prog.underlying 41 with | some (.slice _) => true | _ => false) = true := by kernel_rfl
theorem ZdP : tFld Tryd.prog 80 0 0 = true := by kernel_rfl
theorem Zdf : tFld Tryd.prog 78 0 0 = true := by kernel_rfl
theorem ZhL : tScal Tryd.prog 22 = true := by kernel_rfl
theorem Zkg : JH Tryd.prog 83 = some [.int .i64 0, .int .i64 0] := by kernel_rfl
theorem tZ_83 : Tryd.prog.cellsOf 83 = 2 := by kernel_rfl
instance : SzD Tryd.prog 83 2 := ⟨tZ_83⟩
theorem ZoI : JH Tryd.prog 109 = some [.nilFunc] := by kernel_rfl
theorem tZ_109 : Tryd.prog.cellsOf 109 = 1 := by kernel_rfl
instance : SzD Tryd.prog 109 1 := ⟨tZ_109⟩
theorem ZkB : tScal Tryd.prog 109 = true := by kernel_rfl
theorem ZgV : tArr Tryd.prog 171 16 5 1 = true := by kernel_rfl
theorem ZiA : tInt Tryd.prog 49 .u64 = true := by kernel_rfl
theorem Zl3 : Zci Tryd.prog 83 = some [(0, 1), (1, 1)] := by kernel_rfl
theorem ZkS : ZeL Tryd.prog 83 = true := by kernel_rfl
theorem ZhE : tAgg Tryd.prog 83 2 = true := by kernel_rfl
theorem ZfD : tFld Tryd.prog 83 0 0 = true := by kernel_rfl
theorem Zjq : tArr Tryd.prog 170 97 5 1 = true := by kernel_rfl
theorem Zg1 : tFld Tryd.prog 83 1 1 = true := by kernel_rfl
theorem ZeH : tFld Tryd.prog 78 1 1 = true := by kernel_rfl
theorem Zjg : tScal Tryd.prog 76 = true := by kernel_rfl
theorem Zjk : tSl Tryd.prog 76 83 2 16 = true := by kernel_rfl
theorem Zjb : tFld Tryd.prog 80 2 3 = true := by kernel_rfl
theorem tZ_80 : Tryd.prog.cellsOf 80 = 7 := by kernel_rfl
instance : SzD Tryd.prog 80 7 := ⟨tZ_80⟩
theorem ZkD : tFld Tryd.prog 80 3 4 = true := by kernel_rfl
theorem Zit : Zci Tryd.prog 99 = some [(0, 1), (1, 1)] := by kernel_rfl
theorem ZiI : ZeL Tryd.prog 99 = true := by kernel_rfl
theorem ZkQ : JH Tryd.prog 99 = some [.int .i64 0, .int .i64 0] := by kernel_rfl
theorem ZfG : tSl Tryd.prog 64 99 2 16 = true := by kernel_rfl
theorem tZ_99 : Tryd.prog.cellsOf 99 = 2 := by kernel_rfl
instance : SzD Tryd.prog 99 2 := ⟨tZ_99⟩
theorem Znk : tFld Tryd.prog 80 1 2 = true := by kernel_rfl
theorem Zm0 : JH Tryd.prog 112 = some [.int .u8 0, .int .u8 0, .int .u8 0, .int .u8 0, .int .u8 0, .int .u8 0, .int .u8 0, .int .u8 0, .int .u8 0, .int .u8 0, .int .u8 0, .int .u8 0, .int .u8 0, .int .u8 0, .int .u8 0, .int .u8 0, .int .u8 0, .int .u8 0, .int .u8 0, .int .u8 0, .int .u8 0, .int .u8 0, .int .u8 0, .int .u8 0, .int .u8 0, .int .u8 0, .int .u8 0, .int .u8 0, .int .u8 0, .int .u8 0, .int .u8 0, .int .u8 0, .int .u8 0, .int .u8 0, .int .u8 0, .int .u8 0, .int .u8 0, .int .u8 0, .int .u8 0, .int .u8 0, .int .u8 0, .int .u8 0, .int .u8 0, .int .u8 0, .int .u8 0, .int .u8 0, .int .u8 0, .int .u8 0, .int .u8 0, .int .u8 0, .int .u8 0, .int .u8 0, .int .u8 0, .int .u8 0, .int .u8 0, .int .u8 0, .int .u8 0, .int .u8 0, .int .u8 0, .int .u8 0, .int .u8 0, .int .u8 0, .int .u8 0, .int .u8 0, .int .u8 0, .int .u8 0, .int .u8 0, .int .u8 0, .int .u8 0, .int .u8 0, .int .u8 0, .int .u8 0, .int .u8 0, .int .u8 0, .int .u8 0, .int .u8 0, .int .u8 0, .int .u8 0, .int .u8 0, .int .u8 0, .int .u8 0, .int .u8 0, .int .u8 0, .int .u8 0, .int .u8 0, .int .u8 0, .int .u8 0, .int .u8 0, .int .u8 0, .int .u8 0, .int .u8 0, .int .u8 0, .int .u8 0, .int .u8 0, .int .u8 0, .int .u8 0] := by kernel_rfl
theorem tZ_112 : Tryd.prog.cellsOf 112 = 96 := by kernel_rfl
instance : SzD Tryd.prog 112 96 := ⟨tZ_112⟩
theorem ZcC : tArr Tryd.prog 112 96 5 1 = true := by kernel_rfl
theorem Znw : tFld Tryd.prog 80 4 5 = true := by kernel_rfl
theorem ZnM : tFld Tryd.prog 80 5 6 = true := by kernel_rfl
theorem Zm7 : tAgg Tryd.prog 112 96 = true := by kernel_rfl
theorem ZoE : Zci Tryd.prog 63 = some [(0, 1), (1, 1), (2, 1), (3, 1), (4, 64)] := by kernel_rfl
theorem ZoF : ZeL Tryd.prog 63 = true := by kernel_rfl
theorem Znu : JH Tryd.prog 63 = some ([.int .i64 0, .int .i64 0, .int .i64 0, .int .i64 0] ++ (List.flatten (List.replicate 64 [.int .u16 0]))) := by kernel_rfl
theorem Zl9 : tSl Tryd.prog 58 63 68 160 = true := by kernel_rfl
theorem tZ_63 : Tryd.prog.cellsOf 63 = 68 := by kernel_rfl
instance : SzD Tryd.prog 63 68 := ⟨tZ_63⟩
theorem ZjS : tMap Tryd.prog 61 3 63 = true := by kernel_rfl
theorem Zm5 : Zjv Tryd.prog 63 = some (.agg (([.int .i64 0, .int .i64 0, .int .i64 0, .int .i64 0] ++ (List.flatten (List.replicate 64 [.int .u16 0]))) : List Value).toArray) := by kernel_rfl
theorem Zl8 : tAgg Tryd.prog 63 68 = true := by kernel_rfl
theorem ZkY : tFld Tryd.prog 63 4 4 = true := by kernel_rfl
theorem ZkK : tFld Tryd.prog 63 2 2 = true := by kernel_rfl
theorem tZ_61 : Tryd.prog.cellsOf 61 = 1 := by kernel_rfl
instance : SzD Tryd.prog 61 1 := ⟨tZ_61⟩
theorem Zmx : ZlM Tryd.prog 63 4 4 28 64 = true := by kernel_rfl
def gl0 : Gl := ⟨1, [(0, (gv_frame_syncs.toList.map fun z => Value.int .u16 z).toArray)]⟩
def R5 (x : Int) : List AV := [.int .u8 x]
def R47 (x : List Int) : List AV := [.sl 5 (List.map R5 x)]
def R3 (x : Int) : List AV := [.int .i64 x]
def R4 (x : Bool) : List AV := [.bool x]
def R43 (x : api_Memory) : List AV := [.int .i64 x.Slots, .int .i64 x.Limit, .sl 47 (List.map R47 x.Sectors), .sl 3 (List.map R3 x.Wear), .sl 4 (List.map R4 x.Bad)]
def C26 (x : Int) : AV := .int .u16 x
theorem D3 (x : Int) : (R3 x).length = Tryd.prog.cellsOf 3 ∧ (R3 x).all datB = true := ⟨tZ_3.symm, rfl⟩
instance : RowD Tryd.prog 3 R3 := ⟨D3⟩
def R28 (x : Vector Int 64) : List AV := (List.map C26 x.toList)
theorem E28 (x : Vector Int 64) : (R28 x).all c1B = true := (arC fun _ => rfl)
theorem D28 (x : Vector Int 64) : (R28 x).length = Tryd.prog.cellsOf 28 ∧ (R28 x).all datB = true := ⟨Eq.trans (b := 64) arL tZ_28.symm, (arD fun _ => rfl)⟩
instance : RowD Tryd.prog 28 R28 := ⟨D28⟩
theorem D5 (x : Int) : (R5 x).length = Tryd.prog.cellsOf 5 ∧ (R5 x).all datB = true := ⟨tZ_5.symm, rfl⟩
instance : RowD Tryd.prog 5 R5 := ⟨D5⟩
theorem D47 (x : List Int) : (R47 x).length = Tryd.prog.cellsOf 47 ∧ (R47 x).all datB = true := ⟨tZ_47.symm, rfl⟩
instance : RowD Tryd.prog 47 R47 := ⟨D47⟩
theorem DR5 (x : Int) : (R5 x).length = Tryd.prog.cellsOf 5 ∧ ZbS Tryd.prog (R5 x) := ⟨(D5 x).1, dlF rfl⟩
def O47 (x : List Int) : List AV := [.osub 5 (List.map R5 x)]
theorem Zfn (x : List Int) : (O47 x).length = Tryd.prog.cellsOf 47 ∧ ZbS Tryd.prog (O47 x) := ⟨tZ_47.symm, dlC (dcS DR5) <| dlN⟩
theorem ZoU (x : List Int) : Pw (MeltC Tryd.prog) (O47 x) (R47 x) := .cons (mcS DR5 (fun x => (D5 x).1) (fun _ => mcF rfl)) <| .nil
theorem D4 (x : Bool) : (R4 x).length = Tryd.prog.cellsOf 4 ∧ (R4 x).all datB = true := ⟨tZ_4.symm, rfl⟩
instance : RowD Tryd.prog 4 R4 := ⟨D4⟩
theorem D43 (x : api_Memory) : (R43 x).length = Tryd.prog.cellsOf 43 ∧ (R43 x).all datB = true := ⟨tZ_43.symm, rfl⟩
instance : RowD Tryd.prog 43 R43 := ⟨D43⟩
theorem DR3 (x : Int) : (R3 x).length = Tryd.prog.cellsOf 3 ∧ ZbS Tryd.prog (R3 x) := ⟨(D3 x).1, dlF rfl⟩
theorem DR4 (x : Bool) : (R4 x).length = Tryd.prog.cellsOf 4 ∧ ZbS Tryd.prog (R4 x) := ⟨(D4 x).1, dlF rfl⟩
def O43 (x : api_Memory) : List AV := [.int .i64 x.Slots, .int .i64 x.Limit, .osub 47 (List.map O47 x.Sectors), .osub 3 (List.map R3 x.Wear), .osub 4 (List.map R4 x.Bad)]
theorem Xj (x : api_Memory) : (O43 x).length = Tryd.prog.cellsOf 43 ∧ ZbS Tryd.prog (O43 x) := ⟨tZ_43.symm, dlC (.flat rfl) <| dlC (.flat rfl) <| dlC (dcS Zfn) <| dlC (dcS DR3) <| dlC (dcS DR4) <| dlN⟩
theorem ZiS (x : api_Memory) : Pw (MeltC Tryd.prog) (O43 x) (R43 x) := .cons (.dat rfl) <| .cons (.dat rfl) <| .cons (mcS Zfn (fun x => (D47 x).1) ZoU) <| .cons (mcS DR3 (fun x => (D3 x).1) (fun _ => mcF rfl)) <| .cons (mcS DR4 (fun x => (D4 x).1) (fun _ => mcF rfl)) <| .nil
def C5 (x : Int) : AV := .int .u8 x
def R83 (x : ring_spot) : List AV := [.int .i64 x.sector, .int .i64 x.slot]
theorem D83 (x : ring_spot) : (R83 x).length = Tryd.prog.cellsOf 83 ∧ (R83 x).all datB = true := ⟨tZ_83.symm, rfl⟩
instance : RowD Tryd.prog 83 R83 := ⟨D83⟩
def R99 (x : api_Flaw) : List AV := [.int .i64 x.Word, .int .i64 x.Kind]
theorem D99 (x : api_Flaw) : (R99 x).length = Tryd.prog.cellsOf 99 ∧ (R99 x).all datB = true := ⟨tZ_99.symm, rfl⟩
instance : RowD Tryd.prog 99 R99 := ⟨D99⟩
theorem at1 {a0 : AV} {a1 : AV} {a2 : AV} {a3 : AV} {v4 : Vector Int 64} : At ((a0) :: (a1) :: (a2) :: (a3) :: ((List.map C26 v4.toList) ++ ([]))) 0 1 ([a0]) := at0 (hdc (n := 0) hd0)
theorem pt2 {a0 : AV} {a1 : AV} {a2 : AV} {a3 : AV} {v4 : Vector Int 64} {b0 : AV} : Put ((a0) :: (a1) :: (a2) :: (a3) :: ((List.map C26 v4.toList) ++ ([]))) 0 ([b0]) ((b0) :: (a1) :: (a2) :: (a3) :: ((List.map C26 v4.toList) ++ ([]))) := Zmq
theorem at3 {a0 : AV} {a1 : AV} {a2 : AV} {a3 : AV} {v4 : Vector Int 64} : At ((a0) :: (a1) :: (a2) :: (a3) :: ((List.map C26 v4.toList) ++ ([]))) 1 1 ([a1]) := atc (o := 0) (at0 (hdc (n := 0) hd0))
theorem pt4 {a0 : AV} {a1 : AV} {a2 : AV} {a3 : AV} {v4 : Vector Int 64} {b1 : AV} : Put ((a0) :: (a1) :: (a2) :: (a3) :: ((List.map C26 v4.toList) ++ ([]))) 1 ([b1]) ((a0) :: (b1) :: (a2) :: (a3) :: ((List.map C26 v4.toList) ++ ([]))) := Zhb (o := 0) (Zmq)
theorem at5 {a0 : AV} {a1 : AV} {a2 : AV} {a3 : AV} {v4 : Vector Int 64} : At ((a0) :: (a1) :: (a2) :: (a3) :: ((List.map C26 v4.toList) ++ ([]))) 2 1 ([a2]) := atc (o := 1) (atc (o := 0) (at0 (hdc (n := 0) hd0)))
theorem pt6 {a0 : AV} {a1 : AV} {a2 : AV} {a3 : AV} {v4 : Vector Int 64} {b2 : AV} : Put ((a0) :: (a1) :: (a2) :: (a3) :: ((List.map C26 v4.toList) ++ ([]))) 2 ([b2]) ((a0) :: (a1) :: (b2) :: (a3) :: ((List.map C26 v4.toList) ++ ([]))) := Zhb (o := 1) (Zhb (o := 0) (Zmq))
theorem at7 {a0 : AV} {a1 : AV} {a2 : AV} {a3 : AV} {v4 : Vector Int 64} : At ((a0) :: (a1) :: (a2) :: (a3) :: ((List.map C26 v4.toList) ++ ([]))) 3 1 ([a3]) := atc (o := 2) (atc (o := 1) (atc (o := 0) (at0 (hdc (n := 0) hd0))))
theorem pt8 {a0 : AV} {a1 : AV} {a2 : AV} {a3 : AV} {v4 : Vector Int 64} {b3 : AV} : Put ((a0) :: (a1) :: (a2) :: (a3) :: ((List.map C26 v4.toList) ++ ([]))) 3 ([b3]) ((a0) :: (a1) :: (a2) :: (b3) :: ((List.map C26 v4.toList) ++ ([]))) := Zhb (o := 2) (Zhb (o := 1) (Zhb (o := 0) (Zmq)))
theorem at9 {a0 : AV} {a1 : AV} {a2 : AV} {a3 : AV} {v4 : Vector Int 64} : At ((a0) :: (a1) :: (a2) :: (a3) :: ((List.map C26 v4.toList) ++ ([]))) 4 64 ((List.map C26 v4.toList)) := atc (o := 3) (atc (o := 2) (atc (o := 1) (atc (o := 0) (at0 (hdw arL)))))
theorem Zpi {a0 : AV} {a1 : AV} {a2 : AV} {a3 : AV} {v4 : Vector Int 64} {w4 : Vector Int 64} : Put ((a0) :: (a1) :: (a2) :: (a3) :: ((List.map C26 v4.toList) ++ ([]))) 4 ((List.map C26 w4.toList)) ((a0) :: (a1) :: (a2) :: (a3) :: ((List.map C26 w4.toList) ++ ([]))) := Zhb (o := 3) (Zhb (o := 2) (Zhb (o := 1) (Zhb (o := 0) (Zpm (Eq.trans arL (Eq.symm arL))))))
theorem Zct {a0 : AV} {a1 : AV} {a2 : AV} {a3 : AV} {v4 : Vector Int 64} : ((a0) :: (a1) :: (a2) :: (a3) :: ((List.map C26 v4.toList) ++ ([]))).length = 68 := lnC (n := 67) (lnC (n := 66) (lnC (n := 65) (lnC (n := 64) (lnA (m := 64) (n := 0) arL (lnN)))))
theorem ZeO {x0 : Int} {x1 : Int} {x2 : Int} {x3 : Int} {v4 : Vector Int 64} : ((.int .i64 x0) :: (.int .i64 x1) :: (.int .i64 x2) :: (.int .i64 x3) :: ((List.map C26 v4.toList) ++ ([]))).all datB = true := alC rfl (alC rfl (alC rfl (alC rfl (alA (arD fun _ => rfl) (alN)))))
def R63 (x : api_Kept) : List AV := (.int .i64 x.Memory) :: (.int .i64 x.Sector) :: (.int .i64 x.Sequence) :: (.int .i64 x.Slot) :: ((List.map C26 x.Frame.toList) ++ ([]))
theorem ZnE {x0 : Int} {x1 : Int} {x2 : Int} {x3 : Int} {v4 : Vector Int 64} : ((.int .i64 x0) :: (.int .i64 x1) :: (.int .i64 x2) :: (.int .i64 x3) :: ((List.map C26 v4.toList) ++ ([]))).all c1B = true := alC rfl (alC rfl (alC rfl (alC rfl (alA (arC fun _ => rfl) (alN)))))
theorem E63 (x : api_Kept) : (R63 x).all c1B = true := ZnE
theorem D63 (x : api_Kept) : (R63 x).length = Tryd.prog.cellsOf 63 ∧ (R63 x).all datB = true := ⟨Eq.trans (b := 68) Zct tZ_63.symm, ZeO⟩
instance : RowD Tryd.prog 63 R63 := ⟨D63⟩
def FK3 (x : Int) : AV := .int .i64 x
theorem ZnY : KeyOK Tryd.prog 3 FK3 kqI := ZmS (fun _ => rfl) tI3
def Zel (x : api_Kept) : AV := .agg ((.int .i64 x.Memory) :: (.int .i64 x.Sector) :: (.int .i64 x.Sequence) :: (.int .i64 x.Slot) :: ((List.map C26 x.Frame.toList) ++ ([])))
theorem Zo9 {x0 : Int} {x1 : Int} {x2 : Int} {x3 : Int} {v4 : Vector Int 64} : NS ((.int .i64 x0) :: (.int .i64 x1) :: (.int .i64 x2) :: (.int .i64 x3) :: ((List.map C26 v4.toList) ++ ([]))) := nsC rfl (nsC rfl (nsC rfl (nsC rfl (nsA (nsM fun _ => rfl) (nsR rfl)))))
theorem ZoW : Zn0 Tryd.prog 28 ((List.replicate 64 ([.i .u16])).flatten) := ⟨by kernel_rfl, by kernel_rfl, by kernel_rfl⟩
theorem Zer {x : Int} {r : Int} (h : Jc x = some r) :
 CSpec Tryd.prog gl0 48 [.int .u16 x] (.int .i64 r) := by
 unfold Jc at h
 replace h := Qr h
 refine So Tryd.func48 Y fun w0 A=>Tr<|Ra Y<|Za<|Zg<|Qj (cw := md0) (by kernel_rfl)<|D1 0 Zb Y<|bE h fun q h_q h=>Dq 1 Y (ZbM (ov Y) (ov Y) h_q)<|bE h fun b h_b h=>Dq 2 Y (Zih (ov Y) (ov Y) Znb h_b)<|D1 3 Zb Y<|D2 4 Zbn Y<|bE h fun b2 h_b2 h=>Dq 5 Y (Zih (ov Y) (ov Y) Znb h_b2)<|D2 6 ZP Y<|Dq 7 Y (Xn (ov Y) tI5 tI3 Y)<|D1 8 QC Y<|Dd<|?_
 obtain rfl := rt h
 exact Zi (ZN Y (.one<|rb Y))
theorem ZbZ {w : Int} {r : Bool} (h : JF w = some r) :
 CSpec Tryd.prog gl0 27 [.int .u16 w] (.bool r) := by
 unfold JF at h
 replace h := Qr h
 refine So Tryd.func27 Y fun w0 A=>Tr<|Ra Y<|Za<|Tr<|Rm Y<|R2 ZjJ Y<|Rm Y<|Rq Y (.guarded ((decide (w ≤ 4095)) == true) Y Y Y Y fun h => Zb<|ov Y)<|bE h fun y h_y h=>Rq Y (.guarded ((decide (w ≤ 4095)) == true) Y Y Y Y fun h => Zq (Zer<|gdT h_y h)<|.cons (ow Y h) (.b Y) .nil)<|bE h fun q h_q h=>Rq Y (.guarded ((decide (w ≤ 4095)) == true) Y Y Y Y fun h => ZeJ (ow Y h) (ov Y)<|gdT h_q h)<|Rq Y (.guarded ((decide (w ≤ 4095)) == true) Y Y Y Y fun h => Zbk (ow Y h)<|ov Y)<|Rq Y (Zcp (ov Y) fun hp=>ow Y<|gT hp)<|Ra Y<|Za<|?_
 obtain rfl := rt h
 exact Zi (ZN Y (.one<|rb Y))
theorem JD {data : Int} {r : Int} (h : QK data = some r) :
 CSpec Tryd.prog gl0 14 [.int .i64 data] (.int .u16 r) := by
 unfold QK at h
 replace h := Qr h
 refine So Tryd.func14 Y fun w0 A=>Tr<|Ra Y<|Za<|K1 0 Y<|Tr<|Rm Y<|Rq Y (Xn (ov Y) tI3 Zg8 Y)<|Ra Y<|Za<|Zg<|K1 3 Y<|Tr<|Rm Y<|bE h fun y h_y h=>Rq Y (Zq (ZbZ h_y)<|.cons (ov Y) (.b Y) .nil)<|R1 XV Y<|Za<|K2 3 8 Y<|If h Y (fun h=>?_) fun h=>?_
 ·
  refine K1 3 Y<|Zk<|Rm Y<|R2 Zd5 Y<|Ra Y<|Za<|K1 3 Y<|Tr<|Rm Y<|Ra Y<|Za<|?_
  obtain rfl := rt h
  exact Zi (ZN Y (.one<|rb Y))
 ·
  refine Zf<|K1 3 Y<|Tr<|Rm Y<|Ra Y<|Za<|?_
  obtain rfl := rt h
  exact Zi (ZN Y (.one<|rb Y))
theorem JE {w : Int} {r : Int} (h : Xi w = some r) :
 CSpec Tryd.prog gl0 43 [.int .u16 w] (.int .i64 r) := by
 unfold Xi at h
 replace h := Qr h
 refine So Tryd.func43 Y fun w0 A=>Tr<|Ra Y<|Za<|Tr<|Rm Y<|R2 Zbn Y<|Rq Y (Xn (ov Y) Zg8 tI3 Y)<|Ra Y<|Za<|?_
 obtain rfl := rt h
 exact Zi (ZN Y (.one<|rb Y))
theorem ZaY {f : Vector Int 64} {r : Int} (h : QM f = some r) :
 CSpec Tryd.prog gl0 28 [.rp (List.map C26 f.toList) 0] (.int .i64 r) := by
 unfold QM at h
 replace h := Qr h
 refine So Tryd.func28 Y fun w0 A=>Tr<|Ra Y<|Za<|Zg<|Qj (cw := md0) (by kernel_rfl)<|D1 0 Zb Y<|D1 1 ZC Y<|bE h fun x h_x h=>Dq 2 Y (Xk (ov Y) (ov Y) ZaI h_x)<|Dq 3 Y (Zd (ov Y) ZaW<|Qu<|Xv (o := 0) (o' := ((Int.toNat 1) * 1)) (Zt arL)<|Xt h_x)<|bE h fun y h_y h=>Dq 4 Y (Zq (JE h_y)<|.cons (ov Y) (.b Y) .nil)<|D1 5 Zb Y<|D1 6 ZC Y<|bE h fun x2 h_x2 h=>Dq 7 Y (Xk (ov Y) (ov Y) ZaI h_x2)<|Dq 8 Y (Zd (ov Y) ZaW<|Qu<|Xv (o := 0) (o' := ((Int.toNat 2) * 1)) (Zt arL)<|Xt h_x2)<|bE h fun y2 h_y2 h=>Dq 9 Y (Zq (JE h_y2)<|.cons (ov Y) (.b Y) .nil)<|bE h fun q h_q h=>Dq 10 Y (Zdk (ov Y) (ov Y) h_q)<|D2 11 Zd5 Y<|D1 12 QC Y<|Dd<|?_
 obtain rfl := rt h
 exact Zi (ZN Y (.one<|rb Y))
theorem Zd0 {f : Vector Int 64} {r : Int} (h : Jh f = some r) :
 CSpec Tryd.prog gl0 29 [.rp (List.map C26 f.toList) 0] (.int .i64 r) := by
 unfold Jh at h
 replace h := Qr h
 refine So Tryd.func29 Y fun w0 A=>Tr<|Ra Y<|Za<|K1 0 Y<|Tr<|Ra Y<|Za<|I1 (fun n=>⟨[(3, .int .i64 n)], []⟩) h (fun h=>?_) fun n h=>?_
 ·
  refine Tr<|Rm Y<|Za<|Ze<|?_
  obtain ⟨r1, hl1, ho1⟩ := QH h
  refine L2 (fun n2 i=>⟨[(0, .rp (List.map C26 f.toList) 0), (3, .int .i64 n2), (5, .int .i64 i)], []⟩) hl1 (ES []) fun n1 n2 i h=>?_
  unfold XD at h
  refine Tr<|R2 ZD Y<|Za<|Zg<|If h Y (fun h=>?_) fun h=>?_
  ·
   exact Zf<|Zg<|Ze<|K3 0 3 5 Y<|Tr<|Rm Y<|Ra Y<|Za<|K4 0 3 4 5 Y<|Zk<|Rm Y<|Rm Y<|Rm Y<|R2 ZP Y<|R1 ZC Y<|bE h fun x h_x h=>Rq Y (Xk (ov Y) (ov Y) ZaI h_x)<|Rq Y (Zd (ov Y) ZaW<|Qu<|Xv (o := 0) (o' := ((i64 (i + 1)).toNat * 1)) (Zt arL)<|Xt h_x)<|bE h fun y h_y h=>Rq Y (Zq (JE h_y)<|.cons (ov Y) (.b Y) .nil)<|R2 ZlP Y<|Ra Y<|Za<|K3 0 3 5 Y<|Zk<|R2 ZP Y<|Rm Y<|Za<|⟨_, h, ES []⟩
  ·
   refine ZA<|?_
   replace h := lx h ▸ ho1
   exact ⟨_, h, ES []⟩
 ·
  refine Tr<|Rm Y<|Ra Y<|Za<|?_
  obtain rfl := rt h
  exact Zi (ZN Y (.one<|rb Y))
theorem ZcO {f : Vector Int 64} {r : Int} (h : Xq f = some r) :
 CSpec Tryd.prog gl0 30 [.rp (List.map C26 f.toList) 0] (.int .i64 r) := by
 unfold Xq at h
 replace h := Qr h
 refine So Tryd.func30 Y fun w0 A=>Tr<|Ra Y<|Za<|K1 0 Y<|Tr<|Ra Y<|Za<|I1 (fun n=>⟨[(3, .int .i64 n)], []⟩) h (fun h=>?_) fun n h=>?_
 ·
  refine Tr<|Rm Y<|Za<|Ze<|?_
  obtain ⟨r1, hl1, ho1⟩ := QH h
  refine L2 (fun n2 i=>⟨[(0, .rp (List.map C26 f.toList) 0), (3, .int .i64 n2), (7, .int .i64 i)], []⟩) hl1 (ES []) fun n1 n2 i h=>?_
  unfold QZ at h
  refine Tr<|R2 ZD Y<|Za<|Zg<|If h Y (fun h=>?_) fun h=>?_
  ·
   refine Zf<|I1 (fun n3=>⟨[(0, .rp (List.map C26 f.toList) 0), (3, .int .i64 n3), (7, .int .i64 i)], []⟩) h (fun h=>?_) fun n3 h=>?_
   ·
    refine Ze<|K3 0 3 7 Y<|Tr<|Rm Y<|Ra Y<|Za<|K4 0 3 4 7 Y<|Tr<|Ra Y<|Za<|Ze<|?_
    obtain ⟨r2, hl2, ho2⟩ := QH h
    refine L2 (fun n4 k=>⟨[(0, .rp (List.map C26 f.toList) 0), (3, .int .i64 n4), (4, .int .i64 i), (5, .int .i64 k), (7, .int .i64 i)], []⟩) hl2 (ES []) fun n2 n4 k h=>?_
    unfold QG at h
    refine Zg<|Tr<|Rm Y<|R2 ZgJ Y<|Za<|K6 0 3 4 5 7 11 Y<|If h Y (fun h=>?_) fun h=>?_
    ·
     refine Zf<|Zg<|Ze<|K5 0 3 4 5 7 Y<|Tr<|Rm Y<|R2 Zbn Y<|R2 Q4 Y<|Ra Y<|Za<|K6 0 3 4 5 6 7 Y<|Tr<|Rm Y<|bE h fun q h_q h=>Rq Y (Zdk (ov Y) (ov Y) h_q)<|R2 Zbn Y<|Ra Y<|Za<|K6 0 3 4 5 6 7 Y<|Tr<|Rm Y<|Rm Y<|Rm Y<|R1 ZC Y<|bE h fun x h_x h=>Rq Y (Xk (ov Y) (ov Y) ZaI h_x)<|Rq Y (Zd (ov Y) ZaW<|Qu<|Xv (o := 0) (o' := (i.toNat * 1)) (Zt arL)<|Xt h_x)<|Rm Y<|bE h fun q2 h_q2 h=>Rq Y (ZbM (ov Y) (ov Y) h_q2)<|R2 Zbn Y<|R2 Zbk Y<|Rq Y (Zlh .neq (by simp) (ov Y) (ov Y) tB4)<|Za<|K6 0 3 4 5 7 30 Y<|If h Y (fun h=>?_) fun h=>?_
     ·
      exact K5 0 3 4 5 7 Y<|Zk<|Rm Y<|R2 ZlP Y<|Ra Y<|Za<|K5 0 3 4 5 7 Y<|Zk<|Rm Y<|R2 ZaV Y<|Ra Y<|Za<|⟨_, h, ES []⟩
     ·
      exact Zf<|K5 0 3 4 5 7 Y<|Zk<|Rm Y<|R2 ZaV Y<|Ra Y<|Za<|⟨_, h, ES []⟩
    ·
     refine ZA<|?_
     replace h := lx h ▸ ho2
     exact ⟨_, h, ES []⟩
   ·
    exact Zk<|R2 ZP Y<|Rm Y<|Za<|⟨_, h, ES []⟩
  ·
   refine ZA<|?_
   replace h := lx h ▸ ho1
   exact ⟨_, h, ES []⟩
 ·
  refine Tr<|Rm Y<|Ra Y<|Za<|?_
  obtain rfl := rt h
  exact Zi (ZN Y (.one<|rb Y))
theorem Zfc {f : Vector Int 64} {r : (Vector Int 64)} (h : Jo f = some r) :
 GSpec Tryd.prog gl0 15 [.ptr 0 1 0 0] [some ⟨28, [(List.map C26 f.toList)]⟩] (.tuple []) [some ⟨28, [(List.map C26 r.toList)]⟩] := by
 unfold Jo at h
 replace h := Qr h
 refine Qz (by kernel_rfl) Tryd.func15 Y Y<|?_
 intro w0 A W φ0
 refine Zg<|Qj (cw := md0) (by kernel_rfl)<|D1 0 Zb Y<|D1 1 Zb Y<|bE h fun y h_y h=>Dq 2 Y (J5 (ZaY h_y) .int<|.cons (ov Y) (View.ptr Y Y Y (pwB<|arD fun _ => Y) (hns := (nsM fun _ => Y))) .nil)<|bE h fun q h_q h=>Dq 3 Y (ZeJ (ov Y) (ov Y) h_q)<|bE h fun x h_x h=>Dq 4 Y (Xk (og (v := gv_frame_syncs) (k := .u16) (f := C26) (by simp [gl0]) fun _=>Y) (ov Y) Zoj h_x)<|Dq 5 Y (Zd (ov Y) ZaW<|Qu<|Xv (o := 0) (o' := (q.toNat * 1)) (Zt arL)<|Xt h_x)<|Dq 6 Y (Zp (ov Y) Y Y)<|bE h fun x2 h_x2 h=>Dq 7 Y (XZ (ov Y) (ov Y) ZaI Y Y h_x2)<|Do 8 Y (Zr (ov Y) (ov Y) (Zl ZaW) Y Y Y (arB h_x2) (Zc Y)<|arS h_x2)<|Dd<|Zg<|K1 0 Y<|Qj (cw := md0) (by kernel_rfl)<|D1 0 Zb Y<|D1 1 Zb Y<|bE h fun y2 h_y2 h=>Dq 2 Y (J5 (Zd0 h_y2) .int<|.cons (ov Y) (View.ptr Y Y Y (pwB<|arD fun _ => Y) (hns := (nsM fun _ => Y))) .nil)<|bE h fun y3 h_y3 h=>Dq 3 Y (Zq (JD h_y3)<|.cons (ov Y) (.b Y) .nil)<|Dq 4 Y (Zp (ov Y) Y Y)<|bE h fun x3 h_x3 h=>Dq 5 Y (XZ (ov Y) (ov Y) ZaI Y Y h_x3)<|Do 6 Y (Zr (ov Y) (ov Y) (Zl ZaW) Y Y Y (arB h_x3) (Zc Y)<|arS h_x3)<|Dd<|K1 0 Y<|Tr<|Rm Y<|bE h fun y4 h_y4 h=>Rq Y (J5 (ZcO h_y4) .int<|.cons (ov Y) (View.ptr Y Y Y (pwB<|arD fun _ => Y) (hns := (nsM fun _ => Y))) .nil)<|Ra Y<|Za<|K2 0 2 Y<|Qj (cw := md0) (by kernel_rfl)<|D1 0 Zb Y<|D1 2 Zb Y<|bE h fun q2 h_q2 h=>Dq 3 Y (ZbM (ov Y) (ov Y) h_q2)<|bE h fun y5 h_y5 h=>Dq 4 Y (Zq (JD h_y5)<|.cons (ov Y) (.b Y) .nil)<|D1 5 Zb Y<|D2 6 Zbn Y<|bE h fun y6 h_y6 h=>Dq 7 Y (Zq (JD h_y6)<|.cons (ov Y) (.b Y) .nil)<|Dq 8 Y (Zp (ov Y) Y Y)<|bE h fun x4 h_x4 h=>Dq 9 Y (XZ (ov Y) (ov Y) ZaI Y Y h_x4)<|Z0 1 _ Y (by kernel_rfl) Y Y (fun hp'=>Zb<|ov Y)<|Dw 11 10 Y (Zp (ov Y) Y Y) (Zr (ov Y) (ov Y) (Zl ZaW) Y Y Y (arB h_x4) (Zc Y)<|arS h_x4) ?_ ?_
 ·
  refine Do 10 Y (Zr (ov Y) (ov Y) (Zl ZaW) Y Y Y (arB h_x4) (Zc Y)<|arS h_x4)<|bE h fun x5 h_x5 h=>Dq 12 Y (XZ (ov Y) (ov Y) ZaI Y Y h_x5)<|Do 13 Y (Zr (ov Y) (ov Y) (Zl ZaW) Y Y Y (arB h_x5) (Zc Y)<|arS h_x5)<|Dd<|?_
  obtain rfl := rt h
  exact Zds [some 0] Y .nil (.cons Y (ro1 (by exact Eq.trans (b := 64) arL tZ_28.symm)<|rld<|arD fun _ => Y) .nil) Y Y<|QV rln
 ·
  refine Dq 11 Y (Zp (ov Y) Y Y)<|bE h fun x5 h_x5 h=>Dq 12 Y (XZ (ov Y) (ov Y) ZaI Y Y h_x5)<|Do 13 Y (Zr (ov Y) (ov Y) (Zl ZaW) Y Y Y (arB h_x5) (Zc Y)<|arS h_x5)<|Dd<|?_
  obtain rfl := rt h
  exact Zds [some 0] Y .nil (.cons Y (ro1 (by exact Eq.trans (b := 64) arL tZ_28.symm)<|rld<|arD fun _ => Y) .nil) Y Y<|QV rln
theorem ZeQ {number : Int} {data : List Int} {r : (Vector Int 64) × Int} (h : XO number data = some r) :
 CSpec Tryd.prog gl0 6 [.int .i64 number, .sl 3 (List.map R3 data)] (.tuple [.agg (List.map C26 r.1.toList), .int .i64 r.2]) := by
 unfold XO at h
 replace h := Qr h
 refine So Tryd.func6 Y fun w0 A=>Tr<|Rx Y (Qk (row := (List.map C26 (Vector.replicate 64 0).toList)) 0 Y Ze1 Y tZ_28)<|Ra Y<|Za<|Zg<|K3 0 1 4 Y<|Tr<|Rm Y<|R2 ZD Y<|Rm Y<|Rq Y (.guarded ((decide (number < 0)) == false) Y Y Y Y fun h => Zb<|ov Y)<|Rq Y (.guarded ((decide (number < 0)) == false) Y Y Y Y fun h => ZgJ (ow Y h)<|ov Y)<|Rq Y (ZbU (ov Y) fun hp=>ow Y<|gF hp)<|Za<|K4 0 1 4 14 Y<|If h Y (fun h=>?_) fun h=>?_
 ·
  refine K1 4 Y<|Tr<|R_q (.agg<|List.map C26 (#v[0, 0, 0, 0, 0, 0, 0, 0, 0, 0, 0, 0, 0, 0, 0, 0, 0, 0, 0, 0, 0, 0, 0, 0, 0, 0, 0, 0, 0, 0, 0, 0, 0, 0, 0, 0, 0, 0, 0, 0, 0, 0, 0, 0, 0, 0, 0, 0, 0, 0, 0, 0, 0, 0, 0, 0, 0, 0, 0, 0, 0, 0, 0, 0] : Vector Int 64).toList) Y (ZeV (ys := [_, _, _, _, _, _, _, _, _, _, _, _, _, _, _, _, _, _, _, _, _, _, _, _, _, _, _, _, _, _, _, _, _, _, _, _, _, _, _, _, _, _, _, _, _, _, _, _, _, _, _, _, _, _, _, _, _, _, _, _, _, _, _, _]) ZaI Ze1 .nil Y)<|Rx Y (Zr (ov Y) (ov Y) (ZI JG arL) Y Y Y (ZaL (Zt arL) arL) (Zc<|arC fun _ => Y)<|Jl<|Eq.trans arL<|Eq.symm arL)<|Ra Y<|Za<|?_
  obtain rfl := rt h
  exact Zi (ZN Y (.two (.agg Y Y Y Y JG (QS<|Zt arL) arL (pwB<|arD fun _ => Y) (hns := (nsM fun _ => Y)))<|rb Y))
 ·
  refine Zf<|Zg<|K3 0 1 4 Y<|Tr<|Rm Y<|Rl tZ_3 Qs Y<|R2 Q4 Y<|Za<|K4 0 1 4 18 Y<|If h Y (fun h=>?_) fun h=>?_
  ·
   refine K1 4 Y<|Tr<|R_q (.agg<|List.map C26 (#v[0, 0, 0, 0, 0, 0, 0, 0, 0, 0, 0, 0, 0, 0, 0, 0, 0, 0, 0, 0, 0, 0, 0, 0, 0, 0, 0, 0, 0, 0, 0, 0, 0, 0, 0, 0, 0, 0, 0, 0, 0, 0, 0, 0, 0, 0, 0, 0, 0, 0, 0, 0, 0, 0, 0, 0, 0, 0, 0, 0, 0, 0, 0, 0] : Vector Int 64).toList) Y (ZeV (ys := [_, _, _, _, _, _, _, _, _, _, _, _, _, _, _, _, _, _, _, _, _, _, _, _, _, _, _, _, _, _, _, _, _, _, _, _, _, _, _, _, _, _, _, _, _, _, _, _, _, _, _, _, _, _, _, _, _, _, _, _, _, _, _, _]) ZaI Ze1 .nil Y)<|Rx Y (Zr (ov Y) (ov Y) (ZI JG arL) Y Y Y (ZaL (Zt arL) arL) (Zc<|arC fun _ => Y)<|Jl<|Eq.trans arL<|Eq.symm arL)<|Ra Y<|Za<|?_
   obtain rfl := rt h
   exact Zi (ZN Y (.two (.agg Y Y Y Y JG (QS<|Zt arL) arL (pwB<|arD fun _ => Y) (hns := (nsM fun _ => Y)))<|rb Y))
  ·
   refine Zf<|K3 0 1 4 Y<|Tr<|Rx Y (Qk (row := (List.map C26 (Vector.replicate 64 0).toList)) 1 Y Ze1 Y tZ_28)<|Za<|Tr<|Rm Y<|R2 Zbn Y<|bE h fun y h_y h=>Rq Y (Zq (JD h_y)<|.cons (ov Y) (.b Y) .nil)<|Rm Y<|bE h fun q h_q h=>Rq Y (ZbM (ov Y) (ov Y) h_q)<|bE h fun y2 h_y2 h=>Rq Y (Zq (JD h_y2)<|.cons (ov Y) (.b Y) .nil)<|bE h fun x h_x h=>Rq Y (XZ (ov Y) (ov Y) ZaI Y Y h_x)<|Rx Y (Zr (ov Y) (ov Y) (Zl ZaW) Y Y Y (arB h_x) (Zc Y)<|arS h_x)<|bE h fun x2 h_x2 h=>Rq Y (XZ (ov Y) (ov Y) ZaI Y Y h_x2)<|Rx Y (Zr (ov Y) (ov Y) (Zl ZaW) Y Y Y (arB h_x2) (Zc Y)<|arS h_x2)<|Za<|J1 (fun j => (.inr j)) (fun f=>⟨[(4, .ptr 0 1 0 0), (6, .ptr 1 1 0 0)], [some ⟨28, [(List.map C26 (Vector.replicate 64 0).toList)]⟩, some ⟨28, [(List.map C26 f.toList)]⟩]⟩) h (fun h=>?_) fun f h=>?_
   ·
    refine K3 1 4 6 Y<|Tr<|Rm Y<|Rl tZ_3 Qs Y<|Rm Y<|Za<|Ze<|?_
    obtain ⟨r1, hl1, ho1⟩ := QH h
    refine L2 (fun f2 i=>⟨[(4, .ptr 0 1 0 0), (6, .ptr 1 1 0 0), (28, .sl 3 (List.map R3 data)), (29, .int .i64 (data.length : Int)), (30, .int .i64 i)], [some ⟨28, [(List.map C26 (Vector.replicate 64 0).toList)]⟩, some ⟨28, [(List.map C26 f2.toList)]⟩]⟩) hl1 (ES [some 0, some 1]) fun n1 f2 i h=>?_
    unfold XW at h
    refine Tr<|R2 ZD Y<|Za<|Zg<|If h Y (fun h=>?_) fun h=>?_
    ·
     refine Zf<|Zg<|Ze<|K5 4 6 28 29 30 Y<|Tr<|Rm Y<|bE h fun x3 h_x3 h=>Rq Y (ZQ (ov Y) (ov Y) Qs h_x3)<|Rq Y (Zd (ov Y) tS3 Y)<|Ra Y<|Ra Y<|Za<|Zg<|K7 4 6 7 8 28 29 30 Y<|Tr<|Rm Y<|R2 ZD Y<|Rm Y<|Rq Y (.guarded ((decide (x3 < 0)) == false) Y Y Y Y fun h => Zb<|ov Y)<|Rq Y (.guarded ((decide (x3 < 0)) == false) Y Y Y Y fun h => ZaR (ow Y h)<|ov Y)<|Rq Y (ZbU (ov Y) fun hp=>ow Y<|gF hp)<|Za<|K8 4 6 7 8 28 29 30 40 Y<|If h Y (fun h=>?_) fun h=>?_
     ·
      refine K1 4 Y<|Tr<|R_q (.agg<|List.map C26 (#v[0, 0, 0, 0, 0, 0, 0, 0, 0, 0, 0, 0, 0, 0, 0, 0, 0, 0, 0, 0, 0, 0, 0, 0, 0, 0, 0, 0, 0, 0, 0, 0, 0, 0, 0, 0, 0, 0, 0, 0, 0, 0, 0, 0, 0, 0, 0, 0, 0, 0, 0, 0, 0, 0, 0, 0, 0, 0, 0, 0, 0, 0, 0, 0] : Vector Int 64).toList) Y (ZeV (ys := [_, _, _, _, _, _, _, _, _, _, _, _, _, _, _, _, _, _, _, _, _, _, _, _, _, _, _, _, _, _, _, _, _, _, _, _, _, _, _, _, _, _, _, _, _, _, _, _, _, _, _, _, _, _, _, _, _, _, _, _, _, _, _, _]) ZaI Ze1 .nil Y)<|Rx Y (Zr (ov Y) (ov Y) (ZI JG arL) Y Y Y (ZaL (Zt arL) arL) (Zc<|arC fun _ => Y)<|Jl<|Eq.trans arL<|Eq.symm arL)<|Ra Y<|Za<|?_
      replace h := lx h ▸ ho1
      obtain rfl := rt h
      exact Zi (ZN Y (.two (.agg Y Y Y Y JG (QS<|Zt arL) arL (pwB<|arD fun _ => Y) (hns := (nsM fun _ => Y)))<|rb Y))
     ·
      exact Zf<|K7 4 6 7 8 28 29 30 Y<|Zk<|Rm Y<|R2 ZP Y<|Rm Y<|bE h fun y3 h_y3 h=>Rq Y (Zq (JD h_y3)<|.cons (ov Y) (.b Y) .nil)<|bE h fun x4 h_x4 h=>Rq Y (XZ (ov Y) (ov Y) ZaI Y Y h_x4)<|Rx Y (Zr (ov Y) (ov Y) (Zl ZaW) Y Y Y (arB h_x4) (Zc Y)<|arS h_x4)<|Za<|K5 4 6 28 29 30 Y<|Zk<|R2 ZP Y<|Rm Y<|Za<|⟨_, h, ES [some 0, some 1]⟩
    ·
     refine ZA<|?_
     replace h := lx h ▸ ho1
     exact ⟨_, h, ES [some 0, some 1]⟩
   ·
    replace h := elr h
    replace h := t1i h
    refine Tr<|bE h fun y4 h_y4 h=>Rx Y (ZY [1] (Zfc h_y4) (.cons (ov Y) (.ptr _ _ _ Y) .nil) (.cons Y (ro1 (by exact Eq.trans (b := 64) arL tZ_28.symm)<|rld<|arD fun _ => Y) .nil) Y (.keep Y Y<|.lent 0 (.inl Y) Y (ro1 (by exact Eq.trans (b := 64) arL tZ_28.symm)<|rld<|arD fun _ => Y) .nil) Y Y<|QV<|rld Y)<|Za<|K2 4 6 Y<|Tr<|Rq Y (Q9 (ov Y) Y Y Y JG (QS<|Zt arL) arL (hns := (nsM fun _ => Y)))<|Rx Y (Zr (ov Y) (ov Y) (ZI JG arL) Y Y Y (ZaL (Zt arL) arL) (Zc<|arC fun _ => Y)<|Jl<|Eq.trans arL<|Eq.symm arL)<|Ra Y<|Za<|?_
    obtain rfl := rt h
    exact Zi (ZN Y (.two (.agg Y Y Y Y JG (QS<|Zt arL) arL (pwB<|arD fun _ => Y) (hns := (nsM fun _ => Y)))<|rb Y))
theorem Zh0  {r : Bool} (h : Zb4  = some r) :
 CSpec Tryd.prog gl0 4 [] (.bool r) := by
 unfold Zb4 at h
 replace h := Qr h
 refine So Tryd.func4 Y fun w0 A=>Tr<|Ra Y<|Za<|K0<|Tr<|bE h fun l h_l h=>Rx Y (ZjW [none] (r := 0) (f := R3) (z0 := 0) Y (ov Y) (ov Y) Qs Y tZ3 Y Y h_l)<|Ra Y<|Za<|K1 1 Y<|Tr<|Rm Y<|bE h fun x h_x h=>Rq Y (Qb (ov Y) (ov Y) Qs Y Y h_x)<|Rx Y (Xl (u' := 5) (ov Y) (ov Y) (Zl tS3) Y Y h_x Y (Zc Y) Y)<|Za<|K1 1 Y<|Tr<|Rm Y<|bE h fun y h_y h=>Rq Y (J5 (ZeQ h_y) (.tuple<|by simp only [List.mem_cons, List.not_mem_nil, or_false, forall_eq_or_imp, forall_eq]; exact ⟨(ZgO (fun _ => .int)), .int⟩)<|.cons (ov Y) (Dat.view<|.b Y)<|.cons (ov Y) (View.ownM Y ((List.length_set ..).trans Y) D3) .nil)<|Rm Y<|Rq Y (Zj (ov Y) Y)<|Rq Y (Zj (ov Y) Y)<|Rx Y (Qk (row := (List.map C26 (Vector.replicate 64 0).toList)) 1 Y Ze1 Y tZ_28)<|Rx Y (Zr (ov Y) (ov Y) (ZI JG arL) Y Y Y (ZaL (Zt arL) arL) (Zc<|arC fun _ => Y)<|Jl<|Eq.trans arL<|Eq.symm arL)<|Ra Y<|Za<|K2 2 3 Y<|Tr<|Rm Y<|R2 Zbk Y<|Rm Y<|bE h fun x2 h_x2 h=>Rq Y (.guarded ((decide (y.2 = 0)) == true) Y Y Y Y fun h => XZ (ov Y) (ov Y) ZaI Y Y<|gdT h_x2 h)<|Rq Y (.guarded ((decide (y.2 = 0)) == true) Y Y Y Y fun h => ZM (ow Y h) Y Y Y ZaW<|Qu<|Xv (o := 0) (o' := ((Int.toNat 0) * 1)) (Zt arL)<|Xt<|gdT h_x2 h)<|Rq Y (.guarded ((decide (y.2 = 0)) == true) Y Y Y Y fun h => Zbk (ow Y h)<|ov Y)<|Rq Y (Zcp (ov Y) fun hp=>ow Y<|gT hp)<|Rm Y<|bE h fun x3 h_x3 h=>Rq Y (.guarded (((decide (y.2 = 0)) && (decide (x2 = 2631))) == true) Y Y Y Y fun h => XZ (ov Y) (ov Y) ZaI Y Y<|gdT h_x3 h)<|Rq Y (.guarded (((decide (y.2 = 0)) && (decide (x2 = 2631))) == true) Y Y Y Y fun h => ZM (ow Y h) Y Y Y ZaW<|Qu<|Xv (o := 0) (o' := ((Int.toNat 1) * 1)) (Zt arL)<|Xt<|gdT h_x3 h)<|Rq Y (.guarded (((decide (y.2 = 0)) && (decide (x2 = 2631))) == true) Y Y Y Y fun h => Zbk (ow Y h)<|ov Y)<|Rq Y (Zcp (ov Y) fun hp=>ow Y<|gT hp)<|Rm Y<|bE h fun x4 h_x4 h=>Rq Y (.guarded ((((decide (y.2 = 0)) && (decide (x2 = 2631))) && (decide (x3 = 2))) == true) Y Y Y Y fun h => XZ (ov Y) (ov Y) ZaI Y Y<|gdT h_x4 h)<|Rq Y (.guarded ((((decide (y.2 = 0)) && (decide (x2 = 2631))) && (decide (x3 = 2))) == true) Y Y Y Y fun h => ZM (ow Y h) Y Y Y ZaW<|Qu<|Xv (o := 0) (o' := ((Int.toNat 2) * 1)) (Zt arL)<|Xt<|gdT h_x4 h)<|Rq Y (.guarded ((((decide (y.2 = 0)) && (decide (x2 = 2631))) && (decide (x3 = 2))) == true) Y Y Y Y fun h => Zbk (ow Y h)<|ov Y)<|Rq Y (Zcp (ov Y) fun hp=>ow Y<|gT hp)<|Rm Y<|bE h fun x5 h_x5 h=>Rq Y (.guarded (((((decide (y.2 = 0)) && (decide (x2 = 2631))) && (decide (x3 = 2))) && (decide (x4 = 1))) == true) Y Y Y Y fun h => XZ (ov Y) (ov Y) ZaI Y Y<|gdT h_x5 h)<|Rq Y (.guarded (((((decide (y.2 = 0)) && (decide (x2 = 2631))) && (decide (x3 = 2))) && (decide (x4 = 1))) == true) Y Y Y Y fun h => ZM (ow Y h) Y Y Y ZaW<|Qu<|Xv (o := 0) (o' := ((Int.toNat 3) * 1)) (Zt arL)<|Xt<|gdT h_x5 h)<|Rq Y (.guarded (((((decide (y.2 = 0)) && (decide (x2 = 2631))) && (decide (x3 = 2))) && (decide (x4 = 1))) == true) Y Y Y Y fun h => Zbk (ow Y h)<|ov Y)<|Rq Y (Zcp (ov Y) fun hp=>ow Y<|gT hp)<|Ra Y<|Za<|?_
 obtain rfl := rt h
 exact Zi (ZN Y (.one<|rb Y))
theorem ZaC {n : Int} {low : Int} {high : Int} {r : Bool} (h : QA n low high = some r) :
 CSpec Tryd.prog gl0 47 [.int .i64 n, .int .i64 low, .int .i64 high] (.bool r) := by
 unfold QA at h
 replace h := Qr h
 refine So Tryd.func47 Y fun w0 A=>Tr<|Ra Y<|Za<|Tr<|Rm Y<|Rm Y<|R2 ZD Y<|Rm Y<|Rq Y (.guarded ((decide (n < low)) == false) Y Y Y Y fun h => Zb<|ov Y)<|Rq Y (.guarded ((decide (n < low)) == false) Y Y Y Y fun h => Zb<|ov Y)<|Rq Y (.guarded ((decide (n < low)) == false) Y Y Y Y fun h => ZaR (ow Y h)<|ow Y h)<|Rq Y (ZbU (ov Y) fun hp=>ow Y<|gF hp)<|Ra Y<|Za<|?_
 obtain rfl := rt h
 exact Zi (ZN Y (.one<|rb Y))
theorem Zet {m : api_Memory} {r : Int} (h : X9 m = some r) :
 CSpec Tryd.prog gl0 26 [.agg [.int .i64 m.Slots, .int .i64 m.Limit, .sl 47 (List.map R47 m.Sectors), .sl 3 (List.map R3 m.Wear), .sl 4 (List.map R4 m.Bad)]] (.int .i64 r) := by
 unfold X9 at h
 replace h := Qr h
 refine So Tryd.func26 Y fun w0 A=>Tr<|Rq Y (ZcG (cva<|ov Y) Y tZ_43 Y)<|Ra Y<|Za<|K1 1 Y<|Tr<|Rq Y (ZL (ov Y) Jp)<|Rq Y (Zd (ov Y) Zc5 Y)<|Rl tZ_47 ZbQ Y<|Ra Y<|Za<|Zg<|K2 1 3 Y<|Tr<|Rq Y (ZL (ov Y) Zd2)<|Rq Y (Zd (ov Y) tS3 Y)<|bE h fun y h_y h=>Rq Y (Zq (ZaC h_y)<|.cons (ov Y) (.b Y)<|.cons (ov Y) (.b Y)<|.cons (ov Y) (.b Y) .nil)<|Rm Y<|Rq Y (.guarded (y == false) Y Y Y Y fun h => ZL (ov Y) Zfx)<|Rq Y (.guarded (y == false) Y Y Y Y fun h => Zd (ow Y h) tS3 Y)<|bE h fun y2 h_y2 h=>Rq Y (.guarded (y == false) Y Y Y Y fun h => Zq (ZaC<|gdT h_y2 h)<|.cons (ow Y h) (.b Y)<|.cons (ov Y) (.b Y)<|.cons (ov Y) (.b Y) .nil)<|Rq Y (ZbU (ov Y) fun hp=>ow Y<|gF hp)<|Rm Y<|Rq Y (.guarded ((y || y2) == false) Y Y Y Y fun h => Zb<|ov Y)<|bE h fun y3 h_y3 h=>Rq Y (.guarded ((y || y2) == false) Y Y Y Y fun h => Zq (ZaC<|gdT h_y3 h)<|.cons (ow Y h) (.b Y)<|.cons (ov Y) (.b Y)<|.cons (ov Y) (.b Y) .nil)<|Rq Y (ZbU (ov Y) fun hp=>ow Y<|gF hp)<|Za<|K3 1 3 20 Y<|If h Y (fun h=>?_) fun h=>?_
 ·
  refine K0<|Tr<|Ra Y<|Za<|?_
  obtain rfl := rt h
  exact Zi (ZN Y (.one<|rb Y))
 ·
  refine Zf<|Zg<|K2 1 3 Y<|Tr<|Rq Y (ZL (ov Y) ZbO)<|Rq Y (Zd (ov Y) Zf7 Y)<|Rl tZ_3 Qs Y<|Rm Y<|R2 Q4 Y<|Rm Y<|Rq Y (.guarded ((!decide ((m.Wear.length : Int) = (m.Sectors.length : Int))) == false) Y Y Y Y fun h => ZL (ov Y) Zc7)<|Rq Y (.guarded ((!decide ((m.Wear.length : Int) = (m.Sectors.length : Int))) == false) Y Y Y Y fun h => Zd (ow Y h) Zhf Y)<|Rq Y (.guarded ((!decide ((m.Wear.length : Int) = (m.Sectors.length : Int))) == false) Y Y Y Y fun h => ZfO (QT (ow Y h) tZ_4) Zh1<|Zcw _ _)<|Rq Y (.guarded ((!decide ((m.Wear.length : Int) = (m.Sectors.length : Int))) == false) Y Y Y Y fun h => Zb<|ov Y)<|Rq Y (.guarded ((!decide ((m.Wear.length : Int) = (m.Sectors.length : Int))) == false) Y Y Y Y fun h => Q4 (ow Y h)<|ow Y h)<|Rq Y (ZbU (ov Y) fun hp=>ow Y<|gF hp)<|Za<|K2 1 32 Y<|If h Y (fun h=>?_) fun h=>?_
  ·
   refine K0<|Tr<|Ra Y<|Za<|?_
   obtain rfl := rt h
   exact Zi (ZN Y (.one<|rb Y))
  ·
   refine Zf<|J0 (fun j => (.inr j)) ⟨[], []⟩ h (fun h=>?_) fun h=>?_
   ·
    refine K1 1 Y<|Tr<|Rq Y (ZL (ov Y) Jp)<|Rq Y (Zd (ov Y) Zc5 Y)<|Rl tZ_47 ZbQ Y<|Rm Y<|Za<|Ze<|?_
    obtain ⟨r1, hl1, ho1⟩ := QH h
    refine L1 (fun i=>⟨[(1, .rp [.int .i64 m.Slots, .int .i64 m.Limit, .sl 47 (List.map R47 m.Sectors), .sl 3 (List.map R3 m.Wear), .sl 4 (List.map R4 m.Bad)] 0), (34, .sl 47 (List.map R47 m.Sectors)), (35, .int .i64 (m.Sectors.length : Int)), (36, .int .i64 i)], []⟩) hl1 (ES []) fun n1 i h=>?_
    unfold X3 at h
    refine Tr<|R2 ZD Y<|Za<|Zg<|If h Y (fun h=>?_) fun h=>?_
    ·
     refine Zf<|Zg<|Ze<|K4 1 34 35 36 Y<|Tr<|Rm Y<|bE h fun x h_x h=>Rq Y (ZQ (ov Y) (ov Y) ZbQ h_x)<|Rq Y (Zd (ov Y) ZeU Y)<|Ra Y<|Ra Y<|Za<|Zg<|K6 1 4 5 34 35 36 Y<|Tr<|Rm Y<|Rl tZ_5 XJ Y<|Rq Y (ZL (ov Y) Zd2)<|Rq Y (Zd (ov Y) tS3 Y)<|R2 ZgU Y<|R2 ZP Y<|R2 Q4 Y<|Za<|K6 1 4 34 35 36 47 Y<|If h Y (fun h=>?_) fun h=>?_
     ·
      refine K0<|Tr<|Ra Y<|Za<|?_
      replace h := lx h ▸ ho1
      obtain rfl := rt h
      exact Zi (ZN Y (.one<|rb Y))
     ·
      refine Zf<|Zg<|K5 1 4 34 35 36 Y<|Qj (cw := md0) (by kernel_rfl)<|Dq 0 Y (ZL (ov Y) ZbO)<|Dq 1 Y (Zd (ov Y) Zf7 Y)<|D1 2 Zb Y<|bE h fun x2 h_x2 h=>Dq 3 Y (ZQ (ov Y) (ov Y) Qs h_x2)<|Dq 4 Y (Zd (ov Y) tS3 Y)<|Dq 5 Y (ZL (ov Y) Zfx)<|Dq 6 Y (Zd (ov Y) tS3 Y)<|bE h fun y4 h_y4 h=>Dq 7 Y (Zq (ZaC h_y4)<|.cons (ov Y) (.b Y)<|.cons (ov Y) (.b Y)<|.cons (ov Y) (.b Y) .nil)<|Dd<|K5 1 34 35 36 55 Y<|If h Y (fun h=>?_) fun h=>?_
      ·
       refine K0<|Tr<|Ra Y<|Za<|?_
       replace h := lx h ▸ ho1
       obtain rfl := rt h
       exact Zi (ZN Y (.one<|rb Y))
      ·
       exact Zf<|K4 1 34 35 36 Y<|Zk<|R2 ZP Y<|Rm Y<|Za<|⟨_, h, ES []⟩
    ·
     refine ZA<|?_
     replace h := lx h ▸ ho1
     exact ⟨(), h, ES []⟩
   ·
    replace h := elr h
    replace h := t0i h
    refine Tr<|Ra Y<|Za<|?_
    obtain rfl := rt h
    exact Zi (ZN Y (.one<|rb Y))
theorem Zg9 {l : List api_Memory} {r : Int} (h : ZaD l = some r) :
 CSpec Tryd.prog gl0 13 [.sl 43 (List.map R43 l)] (.int .i64 r) := by
 unfold ZaD at h
 replace h := Qr h
 refine So Tryd.func13 Y fun w0 A=>Tr<|Ra Y<|Za<|Zg<|K1 0 Y<|Tr<|Rm Y<|Rl tZ_43 JV Y<|R2 Zbk Y<|Rm Y<|Rq Y (.guarded ((decide ((l.length : Int) = 0)) == false) Y Y Y Y fun h => Zb<|ov Y)<|Rq Y (.guarded ((decide ((l.length : Int) = 0)) == false) Y Y Y Y fun h => ZfO (QT (ow Y h) tZ_43) JV<|Zcw _ _)<|Rq Y (.guarded ((decide ((l.length : Int) = 0)) == false) Y Y Y Y fun h => ZaR (ow Y h)<|ov Y)<|Rq Y (ZbU (ov Y) fun hp=>ow Y<|gF hp)<|Za<|K2 0 13 Y<|If h Y (fun h=>?_) fun h=>?_
 ·
  refine K0<|Tr<|Ra Y<|Za<|?_
  obtain rfl := rt h
  exact Zi (ZN Y (.one<|rb Y))
 ·
  refine Zf<|J0 (fun j => (.inr j)) ⟨[], []⟩ h (fun h=>?_) fun h=>?_
  ·
   refine K1 0 Y<|Tr<|Rm Y<|Rl tZ_43 JV Y<|Rm Y<|Za<|Ze<|?_
   obtain ⟨r1, hl1, ho1⟩ := QH h
   refine L1 (fun i=>⟨[(14, .sl 43 (List.map R43 l)), (15, .int .i64 (l.length : Int)), (16, .int .i64 i)], []⟩) hl1 (ES []) fun n1 i h=>?_
   unfold Zby at h
   refine Tr<|R2 ZD Y<|Za<|Zg<|If h Y (fun h=>?_) fun h=>?_
   ·
    refine Zf<|Zg<|Ze<|K3 14 15 16 Y<|Tr<|bE h fun x h_x h=>Rq Y (ZQ (ov Y) (ov Y) JV h_x)<|Rq Y (Z9 (ov Y) J7 Y Y)<|Rx Y (Qk (row := [_, _, _, _, _]) 0 Y Zgs Y tZ_43)<|Rx Y (Zr (ov Y) (ov Y) (ZI J7 Y) Y Y Y (Nat.le_of_ble_eq_true Y) (Zc Y) Y)<|Za<|K4 4 14 15 16 Y<|Tr<|Rq Y (Q9 (ov Y) Y Y Y J7 Y Y)<|bE h fun y h_y h=>Rq Y (Zq (Zet h_y)<|.cons (ov Y) (.aggB Y) .nil)<|Ra Y<|Za<|K4 5 14 15 16 Y<|Tr<|Rm Y<|R2 Q4 Y<|Za<|K5 5 14 15 16 23 Y<|If h Y (fun h=>?_) fun h=>?_
    ·
     refine K1 5 Y<|Tr<|Rm Y<|Ra Y<|Za<|?_
     replace h := lx h ▸ ho1
     obtain rfl := rt h
     exact Zi (ZN Y (.one<|rb Y))
    ·
     exact Zf<|K3 14 15 16 Y<|Zk<|R2 ZP Y<|Rm Y<|Za<|⟨_, h, ES []⟩
   ·
    refine ZA<|?_
    replace h := lx h ▸ ho1
    exact ⟨(), h, ES []⟩
  ·
   replace h := elr h
   replace h := t0i h
   refine Tr<|Ra Y<|Za<|?_
   obtain rfl := rt h
   exact Zi (ZN Y (.one<|rb Y))
theorem Zha {l : List api_Memory} {frames : Int} {r : Bool} (h : Zcc l frames = some r) :
 CSpec Tryd.prog gl0 5 [.sl 43 (List.map R43 l), .int .i64 frames] (.bool r) := by
 unfold Zcc at h
 replace h := Qr h
 refine So Tryd.func5 Y fun w0 A=>Tr<|Ra Y<|Za<|Zg<|K2 0 1 Y<|Tr<|Rm Y<|bE h fun y h_y h=>Rq Y (Zq (Zg9 h_y)<|.cons (ov Y) (.b Y) .nil)<|R2 Q4 Y<|Za<|K3 0 1 13 Y<|If h Y (fun h=>?_) fun h=>?_
 ·
  refine K0<|Tr<|Ra Y<|Za<|?_
  obtain rfl := rt h
  exact Zi (ZN Y (.one<|rb Y))
 ·
  refine Zf<|J0 (fun j => (.inr j)) ⟨[], []⟩ h (fun h=>?_) fun h=>?_
  ·
   refine K2 0 1 Y<|Tr<|Rm Y<|Rl tZ_43 JV Y<|Rm Y<|Za<|Ze<|?_
   obtain ⟨r1, hl1, ho1⟩ := QH h
   refine L1 (fun i=>⟨[(1, .int .i64 frames), (14, .sl 43 (List.map R43 l)), (15, .int .i64 (l.length : Int)), (16, .int .i64 i)], []⟩) hl1 (ES []) fun n1 i h=>?_
   unfold Zao at h
   refine Tr<|R2 ZD Y<|Za<|Zg<|If h Y (fun h=>?_) fun h=>?_
   ·
    refine Zf<|J0 (fun j => (.inr j)) ⟨[(1, .int .i64 frames), (14, .sl 43 (List.map R43 l)), (15, .int .i64 (l.length : Int)), (16, .int .i64 i)], []⟩ h (fun h=>?_) fun h=>?_
    ·
     refine Ze<|K4 1 14 15 16 Y<|Tr<|bE h fun x h_x h=>Rq Y (ZQ (ov Y) (ov Y) JV h_x)<|Rq Y (Z9 (ov Y) J7 Y Y)<|Rx Y (Qk (row := [_, _, _, _, _]) 0 Y Zgs Y tZ_43)<|Rx Y (Zr (ov Y) (ov Y) (ZI J7 Y) Y Y Y (Nat.le_of_ble_eq_true Y) (Zc Y) Y)<|Za<|Zg<|K5 1 6 14 15 16 Y<|Tr<|Rq Y (Zo (ov Y) Y Y Zfx)<|Rq Y (ZM (ov Y) Y Y Y tS3 Y)<|Rm Y<|R2 ZD Y<|Za<|K6 1 6 14 15 16 23 Y<|If h Y (fun h=>?_) fun h=>?_
     ·
      refine K0<|Tr<|Ra Y<|Za<|?_
      replace h := lx h ▸ ho1
      obtain rfl := rt h
      exact Zi (ZN Y (.one<|rb Y))
     ·
      refine Zf<|K5 1 6 14 15 16 Y<|Tr<|Rq Y (Zo (ov Y) Y Y Jp)<|Rq Y (ZM (ov Y) Y Y Y Zc5 Y)<|Rl tZ_47 ZbQ Y<|Rm Y<|Za<|Ze<|?_
      obtain ⟨r2, hl2, ho2⟩ := QH h
      refine L1 (fun i2=>⟨[(1, .int .i64 frames), (6, .ptr 0 1 0 0), (14, .sl 43 (List.map R43 l)), (15, .int .i64 (l.length : Int)), (16, .int .i64 i), (25, .sl 47 (List.map R47 x.Sectors)), (26, .int .i64 (x.Sectors.length : Int)), (27, .int .i64 i2)], [some ⟨43, [[.int .i64 x.Slots, .int .i64 x.Limit, .sl 47 (List.map R47 x.Sectors), .sl 3 (List.map R3 x.Wear), .sl 4 (List.map R4 x.Bad)]]⟩]⟩) hl2 (ES [some 0]) fun n2 i2 h=>?_
      unfold Zai at h
      refine Tr<|R2 ZD Y<|Za<|Zg<|If h Y (fun h=>?_) fun h=>?_
      ·
       refine Zf<|J0 (fun j => (.inr j)) ⟨[(1, .int .i64 frames), (6, .ptr 0 1 0 0), (14, .sl 43 (List.map R43 l)), (15, .int .i64 (l.length : Int)), (16, .int .i64 i), (25, .sl 47 (List.map R47 x.Sectors)), (26, .int .i64 (x.Sectors.length : Int)), (27, .int .i64 i2)], [some ⟨43, [[.int .i64 x.Slots, .int .i64 x.Limit, .sl 47 (List.map R47 x.Sectors), .sl 3 (List.map R3 x.Wear), .sl 4 (List.map R4 x.Bad)]]⟩]⟩ h (fun h=>?_) fun h=>?_
       ·
        refine Ze<|K8 1 6 14 15 16 25 26 27 Y<|Tr<|Rm Y<|bE h fun x2 h_x2 h=>Rq Y (ZQ (ov Y) (ov Y) ZbQ h_x2)<|Rq Y (Zd (ov Y) ZeU Y)<|Ra Y<|Ra Y<|Za<|Zg<|K10 1 6 7 8 14 15 16 25 26 27 Y<|Tr<|Rq Y (Zo (ov Y) Y Y ZbO)<|Rq Y (ZM (ov Y) Y Y Y Zf7 Y)<|Rm Y<|bE h fun x3 h_x3 h=>Rq Y (ZQ (ov Y) (ov Y) Qs h_x3)<|Rq Y (Zd (ov Y) tS3 Y)<|R2 Q4 Y<|Rm Y<|Rq Y (.guarded ((!decide (x3 = 0)) == false) Y Y Y Y fun h => Zo (ov Y) Y Y Zc7)<|Rq Y (.guarded ((!decide (x3 = 0)) == false) Y Y Y Y fun h => ZM (ow Y h) Y Y Y Zhf Y)<|Rq Y (.guarded ((!decide (x3 = 0)) == false) Y Y Y Y fun h => Zb<|ov Y)<|bE h fun x4 h_x4 h=>Rq Y (.guarded ((!decide (x3 = 0)) == false) Y Y Y Y fun h => ZQ (ow Y h) (ow Y h) Zh1<|gdT h_x4 h)<|Rq Y (.guarded ((!decide (x3 = 0)) == false) Y Y Y Y fun h => Zd (ow Y h) tS4 Y)<|Rq Y (ZbU (ov Y) fun hp=>ow Y<|gF hp)<|Za<|K10 1 6 8 14 15 16 25 26 27 44 Y<|If h Y (fun h=>?_) fun h=>?_
        ·
         refine K0<|Tr<|Ra Y<|Za<|?_
         replace h := lx h ▸ ho2
         replace h := lx h ▸ ho1
         obtain rfl := rt h
         exact Zi (ZN Y (.one<|rb Y))
        ·
         refine Zf<|K9 1 6 8 14 15 16 25 26 27 Y<|Tr<|Rm Y<|Rl tZ_5 XJ Y<|Rm Y<|Za<|Ze<|?_
         obtain ⟨r3, hl3, ho3⟩ := QH h
         refine L1 (fun i3=>⟨[(1, .int .i64 frames), (6, .ptr 0 1 0 0), (14, .sl 43 (List.map R43 l)), (15, .int .i64 (l.length : Int)), (16, .int .i64 i), (25, .sl 47 (List.map R47 x.Sectors)), (26, .int .i64 (x.Sectors.length : Int)), (27, .int .i64 i2), (45, .sl 5 (List.map R5 x2)), (46, .int .i64 (x2.length : Int)), (47, .int .i64 i3)], [some ⟨43, [[.int .i64 x.Slots, .int .i64 x.Limit, .sl 47 (List.map R47 x.Sectors), .sl 3 (List.map R3 x.Wear), .sl 4 (List.map R4 x.Bad)]]⟩]⟩) hl3 (ES [some 0]) fun n3 i3 h=>?_
         unfold Zav at h
         refine Tr<|R2 ZD Y<|Za<|Zg<|If h Y (fun h=>?_) fun h=>?_
         ·
          refine Zf<|Zg<|Ze<|K11 1 6 14 15 16 25 26 27 45 46 47 Y<|Tr<|bE h fun x5 h_x5 h=>Rq Y (ZQ (ov Y) (ov Y) XJ h_x5)<|Rq Y (Zd (ov Y) tS5 Y)<|Ra Y<|Za<|K12 1 6 10 14 15 16 25 26 27 45 46 47 Y<|Tr<|Rm Y<|R2 Q4 Y<|Za<|K12 1 6 14 15 16 25 26 27 45 46 47 52 Y<|If h Y (fun h=>?_) fun h=>?_
          ·
           refine K0<|Tr<|Ra Y<|Za<|?_
           replace h := lx h ▸ ho3
           replace h := lx h ▸ ho2
           replace h := lx h ▸ ho1
           obtain rfl := rt h
           exact Zi (ZN Y (.one<|rb Y))
          ·
           exact Zf<|K11 1 6 14 15 16 25 26 27 45 46 47 Y<|Zk<|R2 ZP Y<|Rm Y<|Za<|⟨_, h, ES [some 0]⟩
         ·
          refine ZA<|?_
          replace h := lx h ▸ ho3
          exact ⟨(), h, ES [some 0]⟩
       ·
        replace h := elr h
        replace h := t0i h
        exact Zk<|R2 ZP Y<|Rm Y<|Za<|⟨_, h, ES [some 0]⟩
      ·
       refine ZA<|?_
       replace h := lx h ▸ ho2
       exact ⟨(), h, ES []⟩
    ·
     replace h := elr h
     replace h := t0i h
     exact Zk<|R2 ZP Y<|Rm Y<|Za<|⟨_, h, ES []⟩
   ·
    refine ZA<|?_
    replace h := lx h ▸ ho1
    exact ⟨(), h, ES []⟩
  ·
   replace h := elr h
   replace h := t0i h
   refine Tr<|Ra Y<|Za<|?_
   obtain rfl := rt h
   exact Zi (ZN Y (.one<|rb Y))
theorem QN {n : Int} {low : Int} {high : Int} {r : Bool} (h : Qi n low high = some r) :
 CSpec Tryd.prog gl0 24 [.int .i64 n, .int .i64 low, .int .i64 high] (.bool r) := by
 unfold Qi at h
 replace h := Qr h
 refine So Tryd.func24 Y fun w0 A=>Tr<|Ra Y<|Za<|Tr<|Rm Y<|Rm Y<|R2 ZgJ Y<|Rm Y<|Rq Y (.guarded ((decide (low ≤ n)) == true) Y Y Y Y fun h => Zb<|ov Y)<|Rq Y (.guarded ((decide (low ≤ n)) == true) Y Y Y Y fun h => Zb<|ov Y)<|Rq Y (.guarded ((decide (low ≤ n)) == true) Y Y Y Y fun h => ZjJ (ow Y h)<|ow Y h)<|Rq Y (Zcp (ov Y) fun hp=>ow Y<|gT hp)<|Ra Y<|Za<|?_
 obtain rfl := rt h
 exact Zi (ZN Y (.one<|rb Y))
theorem Zen {slots : Int} {r : Int} (h : X8 slots = some r) :
 CSpec Tryd.prog gl0 76 [.int .i64 slots] (.int .i64 r) := by
 unfold X8 at h
 replace h := Qr h
 refine So Tryd.func76 Y fun w0 A=>Tr<|Ra Y<|Za<|Tr<|Rm Y<|R2 ZgU Y<|R2 ZP Y<|Ra Y<|Za<|?_
 obtain rfl := rt h
 exact Zi (ZN Y (.one<|rb Y))
theorem Zep {m : api_Memory} {r : Int} (h : Q1 m = some r) :
 CSpec Tryd.prog gl0 46 [.agg [.int .i64 m.Slots, .int .i64 m.Limit, .sl 47 (List.map R47 m.Sectors), .sl 3 (List.map R3 m.Wear), .sl 4 (List.map R4 m.Bad)]] (.int .i64 r) := by
 unfold Q1 at h
 replace h := Qr h
 refine So Tryd.func46 Y fun w0 A=>Tr<|Rq Y (ZcG (cva<|ov Y) Y tZ_43 Y)<|Ra Y<|Za<|K1 1 Y<|Tr<|Rq Y (ZL (ov Y) Jp)<|Rq Y (Zd (ov Y) Zc5 Y)<|Rl tZ_47 ZbQ Y<|Ra Y<|Za<|Zg<|Ze<|K2 1 3 Y<|Tr<|Rq Y (ZL (ov Y) Zd2)<|Rq Y (Zd (ov Y) tS3 Y)<|bE h fun y h_y h=>Rq Y (Zq (QN h_y)<|.cons (ov Y) (.b Y)<|.cons (ov Y) (.b Y)<|.cons (ov Y) (.b Y) .nil)<|R1 XV Y<|Rm Y<|Rq Y (.guarded ((!y) == false) Y Y Y Y fun h => ZL (ov Y) Zfx)<|Rq Y (.guarded ((!y) == false) Y Y Y Y fun h => Zd (ow Y h) tS3 Y)<|bE h fun y2 h_y2 h=>Rq Y (.guarded ((!y) == false) Y Y Y Y fun h => Zq (QN<|gdT h_y2 h)<|.cons (ow Y h) (.b Y)<|.cons (ov Y) (.b Y)<|.cons (ov Y) (.b Y) .nil)<|Rq Y (.guarded ((!y) == false) Y Y Y Y fun h => XV<|ow Y h)<|Rq Y (ZbU (ov Y) fun hp=>ow Y<|gF hp)<|Rm Y<|Rq Y (.guarded (((!y) || (!y2)) == false) Y Y Y Y fun h => Zb<|ov Y)<|bE h fun y3 h_y3 h=>Rq Y (.guarded (((!y) || (!y2)) == false) Y Y Y Y fun h => Zq (QN<|gdT h_y3 h)<|.cons (ow Y h) (.b Y)<|.cons (ov Y) (.b Y)<|.cons (ov Y) (.b Y) .nil)<|Rq Y (.guarded (((!y) || (!y2)) == false) Y Y Y Y fun h => XV<|ow Y h)<|Rq Y (ZbU (ov Y) fun hp=>ow Y<|gF hp)<|Ra Y<|Za<|K3 1 3 9 Y<|If h Y (fun h=>?_) fun h=>?_
 ·
  refine K0<|Tr<|Ra Y<|Za<|?_
  obtain rfl := rt h
  exact Zi (ZN Y (.one<|rb Y))
 ·
  refine K2 1 3 Y<|Tr<|Rq Y (ZL (ov Y) ZbO)<|Rq Y (Zd (ov Y) Zf7 Y)<|Rl tZ_3 Qs Y<|Rm Y<|R2 Q4 Y<|Rm Y<|Rq Y (.guarded ((!decide ((m.Wear.length : Int) = (m.Sectors.length : Int))) == false) Y Y Y Y fun h => ZL (ov Y) Zc7)<|Rq Y (.guarded ((!decide ((m.Wear.length : Int) = (m.Sectors.length : Int))) == false) Y Y Y Y fun h => Zd (ow Y h) Zhf Y)<|Rq Y (.guarded ((!decide ((m.Wear.length : Int) = (m.Sectors.length : Int))) == false) Y Y Y Y fun h => ZfO (QT (ow Y h) tZ_4) Zh1<|Zcw _ _)<|Rq Y (.guarded ((!decide ((m.Wear.length : Int) = (m.Sectors.length : Int))) == false) Y Y Y Y fun h => Zb<|ov Y)<|Rq Y (.guarded ((!decide ((m.Wear.length : Int) = (m.Sectors.length : Int))) == false) Y Y Y Y fun h => Q4 (ow Y h)<|ow Y h)<|Rq Y (ZbU (ov Y) fun hp=>ow Y<|gF hp)<|Ra Y<|Za<|K2 1 25 Y<|If h Y (fun h=>?_) fun h=>?_
  ·
   refine K0<|Tr<|Ra Y<|Za<|?_
   obtain rfl := rt h
   exact Zi (ZN Y (.one<|rb Y))
  ·
   refine Zf<|J0 (fun j => (.inr j)) ⟨[], []⟩ h (fun h=>?_) fun h=>?_
   ·
    refine K1 1 Y<|Tr<|Rq Y (ZL (ov Y) Jp)<|Rq Y (Zd (ov Y) Zc5 Y)<|Rl tZ_47 ZbQ Y<|Rm Y<|Za<|Ze<|?_
    obtain ⟨r1, hl1, ho1⟩ := QH h
    refine L1 (fun i=>⟨[(1, .rp [.int .i64 m.Slots, .int .i64 m.Limit, .sl 47 (List.map R47 m.Sectors), .sl 3 (List.map R3 m.Wear), .sl 4 (List.map R4 m.Bad)] 0), (39, .sl 47 (List.map R47 m.Sectors)), (40, .int .i64 (m.Sectors.length : Int)), (41, .int .i64 i)], []⟩) hl1 (ES []) fun n1 i h=>?_
    unfold Qv at h
    refine Tr<|R2 ZD Y<|Za<|Zg<|If h Y (fun h=>?_) fun h=>?_
    ·
     refine Zf<|Zg<|Ze<|K4 1 39 40 41 Y<|Tr<|Rm Y<|bE h fun x h_x h=>Rq Y (ZQ (ov Y) (ov Y) ZbQ h_x)<|Rq Y (Zd (ov Y) ZeU Y)<|Ra Y<|Ra Y<|Za<|Zg<|K6 1 4 5 39 40 41 Y<|Tr<|Rm Y<|Rl tZ_5 XJ Y<|Rq Y (ZL (ov Y) Zd2)<|Rq Y (Zd (ov Y) tS3 Y)<|bE h fun y4 h_y4 h=>Rq Y (Zq (Zen h_y4)<|.cons (ov Y) (.b Y) .nil)<|R2 Q4 Y<|Za<|K6 1 4 39 40 41 51 Y<|If h Y (fun h=>?_) fun h=>?_
     ·
      refine K0<|Tr<|Ra Y<|Za<|?_
      replace h := lx h ▸ ho1
      obtain rfl := rt h
      exact Zi (ZN Y (.one<|rb Y))
     ·
      refine Zf<|Zg<|K5 1 4 39 40 41 Y<|Qj (cw := md0) (by kernel_rfl)<|Dq 0 Y (ZL (ov Y) ZbO)<|Dq 1 Y (Zd (ov Y) Zf7 Y)<|D1 2 Zb Y<|bE h fun x2 h_x2 h=>Dq 3 Y (ZQ (ov Y) (ov Y) Qs h_x2)<|Dq 4 Y (Zd (ov Y) tS3 Y)<|Dq 5 Y (ZL (ov Y) Zfx)<|Dq 6 Y (Zd (ov Y) tS3 Y)<|bE h fun y5 h_y5 h=>Dq 7 Y (Zq (QN h_y5)<|.cons (ov Y) (.b Y)<|.cons (ov Y) (.b Y)<|.cons (ov Y) (.b Y) .nil)<|D1 8 XV Y<|Dd<|K5 1 39 40 41 60 Y<|If h Y (fun h=>?_) fun h=>?_
      ·
       refine K0<|Tr<|Ra Y<|Za<|?_
       replace h := lx h ▸ ho1
       obtain rfl := rt h
       exact Zi (ZN Y (.one<|rb Y))
      ·
       exact Zf<|K4 1 39 40 41 Y<|Zk<|R2 ZP Y<|Rm Y<|Za<|⟨_, h, ES []⟩
    ·
     refine ZA<|?_
     replace h := lx h ▸ ho1
     exact ⟨(), h, ES []⟩
   ·
    replace h := elr h
    replace h := t0i h
    refine Tr<|Ra Y<|Za<|?_
    obtain rfl := rt h
    exact Zi (ZN Y (.one<|rb Y))
theorem Zbr {l : List api_Memory} {r : Int} (h : Q7 l = some r) :
 CSpec Tryd.prog gl0 23 [.sl 43 (List.map R43 l)] (.int .i64 r) := by
 unfold Q7 at h
 replace h := Qr h
 refine So Tryd.func23 Y fun w0 A=>Tr<|Ra Y<|Za<|Zg<|K1 0 Y<|Tr<|Rm Y<|Rl tZ_43 JV Y<|bE h fun y h_y h=>Rq Y (Zq (QN h_y)<|.cons (ov Y) (.b Y)<|.cons (ov Y) (.b Y)<|.cons (ov Y) (.b Y) .nil)<|R1 XV Y<|Za<|K2 0 9 Y<|If h Y (fun h=>?_) fun h=>?_
 ·
  refine K0<|Tr<|Ra Y<|Za<|?_
  obtain rfl := rt h
  exact Zi (ZN Y (.one<|rb Y))
 ·
  refine Zf<|J0 (fun j => (.inr j)) ⟨[], []⟩ h (fun h=>?_) fun h=>?_
  ·
   refine K1 0 Y<|Tr<|Rm Y<|Rl tZ_43 JV Y<|Rm Y<|Za<|Ze<|?_
   obtain ⟨r1, hl1, ho1⟩ := QH h
   refine L1 (fun i=>⟨[(10, .sl 43 (List.map R43 l)), (11, .int .i64 (l.length : Int)), (12, .int .i64 i)], []⟩) hl1 (ES []) fun n1 i h=>?_
   unfold ring_checkAll_L1 at h
   refine Tr<|R2 ZD Y<|Za<|Zg<|If h Y (fun h=>?_) fun h=>?_
   ·
    refine Zf<|Zg<|Ze<|K3 10 11 12 Y<|Tr<|bE h fun x h_x h=>Rq Y (ZQ (ov Y) (ov Y) JV h_x)<|Rq Y (Z9 (ov Y) J7 Y Y)<|Rx Y (Qk (row := [_, _, _, _, _]) 0 Y Zgs Y tZ_43)<|Rx Y (Zr (ov Y) (ov Y) (ZI J7 Y) Y Y Y (Nat.le_of_ble_eq_true Y) (Zc Y) Y)<|Za<|K4 4 10 11 12 Y<|Tr<|Rq Y (Q9 (ov Y) Y Y Y J7 Y Y)<|bE h fun y2 h_y2 h=>Rq Y (Zq (Zep h_y2)<|.cons (ov Y) (.aggB Y) .nil)<|Ra Y<|Za<|K4 5 10 11 12 Y<|Tr<|Rm Y<|R2 Q4 Y<|Za<|K5 5 10 11 12 19 Y<|If h Y (fun h=>?_) fun h=>?_
    ·
     refine K1 5 Y<|Tr<|Rm Y<|Ra Y<|Za<|?_
     replace h := lx h ▸ ho1
     obtain rfl := rt h
     exact Zi (ZN Y (.one<|rb Y))
    ·
     exact Zf<|K3 10 11 12 Y<|Zk<|R2 ZP Y<|Rm Y<|Za<|⟨_, h, ES []⟩
   ·
    refine ZA<|?_
    replace h := lx h ▸ ho1
    exact ⟨(), h, ES []⟩
  ·
   replace h := elr h
   replace h := t0i h
   refine Tr<|Ra Y<|Za<|?_
   obtain rfl := rt h
   exact Zi (ZN Y (.one<|rb Y))
theorem Zil {xs r : List Int} (h : Zey 1 xs = some r) :
 GSpec Tryd.prog gl0 77 [.sl 5 (List.map R5 xs)] [] (.own 0 r.length) [some ⟨5, List.map R5 r⟩] := by
 have h2 : apz 1 [] xs = some r := h
 refine Qz (by kernel_rfl) Tryd.func77 Y Y<|?_
 intro w0 A W φ0
 refine Tr<|Ra Y<|Za<|Zg<|Zg<|Zk<|Rm Y<|ZhX (ov Y) ZnP Y fun b hb=>?_
 refine Za<|Zib Y (fun hb2=>?_) fun hb2=>?_
 ·
  obtain rfl : xs = [] := by simpa using hb hb2
  obtain rfl : r = [] := by simpa [app, apz] using h2.symm
  exact Tr<|Ra Y<|Za<|Zi<|ZaU [none] Y (.cons (.tmp Y) .nil) (.row 5 .nil) Y Y<|.row Y
 ·
  exact Zf<|Tr<|Rx Y (Zh5 (r := 0) (xs := []) (f := R5) Y XJ .nil Y Y Y)<|Rm Y<|Rx Y (Zfw (ov Y) (QT (ov Y) tZ_5) XJ Y Y (fun _=>Zc Y) Y h2)<|Ra Y<|Za<|Zi<|ZaU [some 0] Y (.cons (.tmp Y) .nil) (.cons Y (roM D5) .nil) Y Y<|.own _ Y
theorem ZfZ {xs r : List Int} (h : Zey 8 xs = some r) :
 GSpec Tryd.prog gl0 78 [.sl 3 (List.map R3 xs)] [] (.own 0 r.length) [some ⟨3, List.map R3 r⟩] := by
 have h2 : apz 8 [] xs = some r := h
 refine Qz (by kernel_rfl) Tryd.func78 Y Y<|?_
 intro w0 A W φ0
 refine Tr<|Ra Y<|Za<|Zg<|Zg<|Zk<|Rm Y<|ZhX (ov Y) Zoh Y fun b hb=>?_
 refine Za<|Zib Y (fun hb2=>?_) fun hb2=>?_
 ·
  obtain rfl : xs = [] := by simpa using hb hb2
  obtain rfl : r = [] := by simpa [app, apz] using h2.symm
  exact Tr<|Ra Y<|Za<|Zi<|ZaU [none] Y (.cons (.tmp Y) .nil) (.row 3 .nil) Y Y<|.row Y
 ·
  exact Zf<|Tr<|Rx Y (Zh5 (r := 0) (xs := []) (f := R3) Y Qs .nil Y Y Y)<|Rm Y<|Rx Y (Zfw (ov Y) (QT (ov Y) tZ_3) Qs Y Y (fun _=>Zc Y) Y h2)<|Ra Y<|Za<|Zi<|ZaU [some 0] Y (.cons (.tmp Y) .nil) (.cons Y (roM D3) .nil) Y Y<|.own _ Y
theorem ZfQ {xs r : List Bool} (h : Zey 1 xs = some r) :
 GSpec Tryd.prog gl0 79 [.sl 4 (List.map R4 xs)] [] (.own 0 r.length) [some ⟨4, List.map R4 r⟩] := by
 have h2 : apz 1 [] xs = some r := h
 refine Qz (by kernel_rfl) Tryd.func79 Y Y<|?_
 intro w0 A W φ0
 refine Tr<|Ra Y<|Za<|Zg<|Zg<|Zk<|Rm Y<|ZhX (ov Y) Zod Y fun b hb=>?_
 refine Za<|Zib Y (fun hb2=>?_) fun hb2=>?_
 ·
  obtain rfl : xs = [] := by simpa using hb hb2
  obtain rfl : r = [] := by simpa [app, apz] using h2.symm
  exact Tr<|Ra Y<|Za<|Zi<|ZaU [none] Y (.cons (.tmp Y) .nil) (.row 4 .nil) Y Y<|.row Y
 ·
  exact Zf<|Tr<|Rx Y (Zh5 (r := 0) (xs := []) (f := R4) Y Zh1 .nil Y Y Y)<|Rm Y<|Rx Y (Zfw (ov Y) (QT (ov Y) tZ_4) Zh1 Y Y (fun _=>Zc Y) Y h2)<|Ra Y<|Za<|Zi<|ZaU [some 0] Y (.cons (.tmp Y) .nil) (.cons Y (roM D4) .nil) Y Y<|.own _ Y
theorem ZbJ {m : api_Memory} {r : api_Memory} (h : Jw m = some r) :
 GSpec Tryd.prog gl0 49 [.agg [.int .i64 m.Slots, .int .i64 m.Limit, .sl 47 (List.map R47 m.Sectors), .sl 3 (List.map R3 m.Wear), .sl 4 (List.map R4 m.Bad)]] [] (.agg [.int .i64 r.Slots, .int .i64 r.Limit, .own 0 r.Sectors.length, .own 1 r.Wear.length, .own 2 r.Bad.length]) [some ⟨47, List.map O47 r.Sectors⟩, some ⟨3, List.map R3 r.Wear⟩, some ⟨4, List.map R4 r.Bad⟩] := by
 unfold Jw at h
 replace h := Qr h
 refine Qz (by kernel_rfl) Tryd.func49 Y Y<|?_
 intro w0 A W φ0
 refine Tr<|Rx Y (Zm9 0 Y (ov Y) J7 Y)<|Rx Y (Qk (row := [_, _, _, _, _]) 1 Y Zgs Y tZ_43)<|Za<|K2 1 2 Y<|Tr<|Ra Y<|Za<|I1 (fun sectors=>⟨[(1, .ptr 0 1 0 0), (2, .ptr 1 1 0 0), (3, .own 2 sectors.length)], [some ⟨43, [[.int .i64 m.Slots, .int .i64 m.Limit, .sl 47 (List.map R47 m.Sectors), .sl 3 (List.map R3 m.Wear), .sl 4 (List.map R4 m.Bad)]]⟩, some ⟨43, [[.int .i64 0, .int .i64 0, .nils, .nils, .nils]]⟩, some ⟨47, List.map O47 sectors⟩]⟩) h (fun h=>?_) fun sectors h=>?_
 ·
  refine Tr<|Rq Y (Zo (ov Y) Y Y Jp)<|Rq Y (ZM (ov Y) Y Y Y Zc5 Y)<|Rl tZ_47 ZbQ Y<|Rm Y<|Za<|Ze<|?_
  obtain ⟨r1, hl1, ho1⟩ := QH h
  refine L2 (fun sectors2 i=>⟨[(1, .ptr 0 1 0 0), (2, .ptr 1 1 0 0), (3, .own 2 sectors2.length), (7, .sl 47 (List.map R47 m.Sectors)), (8, .int .i64 (m.Sectors.length : Int)), (9, .int .i64 i)], [some ⟨43, [[.int .i64 m.Slots, .int .i64 m.Limit, .sl 47 (List.map R47 m.Sectors), .sl 3 (List.map R3 m.Wear), .sl 4 (List.map R4 m.Bad)]]⟩, some ⟨43, [[.int .i64 0, .int .i64 0, .nils, .nils, .nils]]⟩, some ⟨47, List.map O47 sectors2⟩]⟩) hl1 (ES [some 0, some 1, none]) fun n1 sectors2 i h=>?_
  unfold XB at h
  refine Tr<|R2 ZD Y<|Za<|Zg<|If h Y (fun h=>?_) fun h=>?_
  ·
   exact Zf<|Zg<|Ze<|K6 1 2 3 7 8 9 Y<|Tr<|bE h fun x h_x h=>Rq Y (ZQ (ov Y) (ov Y) ZbQ h_x)<|Rq Y (Zd (ov Y) ZeU Y)<|Ra Y<|Za<|K7 1 2 3 5 7 8 9 Y<|Zk<|Rm Y<|Rm Y<|bE h fun y h_y h=>Rx Y (ZY [] (Zil h_y) (.cons (ov Y) (.dat Y) .nil) .nil Y (.keep Y Y<|.keep Y Y<|.keep Y Y<|.lent 0 (.inr ⟨Nat.le_of_ble_eq_true Y, Y⟩) Y (roM D5) .nil) Y Y<|.own _<|.inr ⟨Nat.le_of_ble_eq_true Y, Y⟩)<|Rx Y (Zi1 (r := 4) Y ZbQ (.cons (cvs (ov Y)<|Qm Y) Y .nil) Y Y)<|bE h fun l h_l h=>Rx Y (ZfI (f := O47) (ov Y) (Zh6 (o := ⟨47, [[.own 3 y.length]]⟩) (ov Y) Y Y tZ_47) ZbQ Y Y (Zc Y) Y h_l)<|Ra Y<|ZdQ [some ⟨43, [[.int .i64 m.Slots, .int .i64 m.Limit, .sl 47 (List.map R47 m.Sectors), .sl 3 (List.map R3 m.Wear), .sl 4 (List.map R4 m.Bad)]]⟩, some ⟨43, [[.int .i64 0, .int .i64 0, .nils, .nils, .nils]]⟩, some ⟨47, List.set (List.map O47 l) sectors2.length [.own 3 y.length]⟩, some ⟨5, List.map R5 y⟩, some ⟨47, [[.own 3 y.length]]⟩] Y<|QR (Ent.absorbH (r := 2) (j := 0) (q := 3) Y (Zau h_l) Y Y (List.length_map ..) Y)<|QR (Ent.closeS (r := 2) Y (Zau h_l) Y)<|Za<|K6 1 2 3 7 8 9 Y<|QU [some ⟨43, [[.int .i64 m.Slots, .int .i64 m.Limit, .sl 47 (List.map R47 m.Sectors), .sl 3 (List.map R3 m.Wear), .sl 4 (List.map R4 m.Bad)]]⟩, some ⟨43, [[.int .i64 0, .int .i64 0, .nils, .nils, .nils]]⟩, some ⟨47, List.map O47 l⟩, none, some ⟨47, [[.own 3 y.length]]⟩] Y<|Zk<|R2 ZP Y<|Rm Y<|Za<|⟨_, h, ES [some 0, some 1, some 2] (hhp := .cons Y (ro1 (by exact tZ_43.symm)<|rld Y)<|.cons Y (ro1 (by exact tZ_43.symm)<|rld Y)<|.cons Y (roO Zfn) .nil)⟩
  ·
   refine ZA<|?_
   replace h := lx h ▸ ho1
   exact ⟨_, h, ES [some 0, some 1, some 2] (hhp := .cons Y (ro1 (by exact tZ_43.symm)<|rld Y)<|.cons Y (ro1 (by exact tZ_43.symm)<|rld Y)<|.cons Y (roO Zfn) .nil)⟩
 ·
  refine Zg<|Qj (cw := ⟨true, true, [some ⟨43, [[.int .i64 m.Slots, .int .i64 m.Limit, .sl 47 (List.map R47 m.Sectors), .sl 3 (List.map R3 m.Wear), .sl 4 (List.map R4 m.Bad)]]⟩, some ⟨43, [[.int .i64 0, .int .i64 0, .nils, .nils, .nils]]⟩, some ⟨47, List.map O47 sectors⟩], [], [0]⟩) (by kernel_rfl)<|Dq 1 Y (Zo (ov Y) Y Y ZbO)<|Dq 2 Y (ZM (ov Y) Y Y Y Zf7 Y)<|Z0 0 _ Y (by kernel_rfl) Y Y (fun hp'=>Zb<|ov Y)<|XK 4 _ Y (by kernel_rfl) Y Y Y (EL.ext<|.wr Y Y Y<|.keep<|.keep .nil) (fun hp' hx=>exW (r := 0) hx Y fun _ ho hn => Zo (ov Y) ho hn Zc7)<|bE h fun y2 h_y2 h=>ZkG 5 3 Y Y (by kernel_rfl) Y Y Y Y (fun h=>by cases h) (fun _=>by exact EL.ext (.wr rfl rfl rfl <| .keep <| .keep <| .nil)) (ZM (ov Y) Y Y Y Zhf Y) (ZY [] (ZfZ h_y2) (.cons (ov Y) (.dat Y) .nil) .nil Y (.keep Y Y<|.keep Y Y<|.keep Y Y<|.lent 0 (.inr ⟨Nat.le_of_ble_eq_true Y, Y⟩) Y (roM D3) .nil) Y Y<|.own _<|.inr ⟨Nat.le_of_ble_eq_true Y, Y⟩) ?_ ?_
  ·
   refine XK 7 _ Y (by kernel_rfl) Y Y Y (EL.ext<|.wr Y Y Y<|.keep<|.keep .nil) (fun hp' hx=>exW (r := 0) hx Y fun _ ho hn => Zo (ov Y) ho hn Jp)<|Zck 3 _ _ Y (by kernel_rfl) Y Y (fun h=>by cases h) (fun _=>by exact EL.ext (.wr rfl rfl rfl <| .keep <| .keep <| .nil)) (ZY [] (ZfZ h_y2) (.cons (ov Y) (.dat Y) .nil) .nil Y (.keep Y Y<|.keep Y Y<|.keep Y Y<|.lent 0 (.inr ⟨Nat.le_of_ble_eq_true Y, Y⟩) Y (roM D3) .nil) Y Y<|.own _<|.inr ⟨Nat.le_of_ble_eq_true Y, Y⟩)<|bE h fun y3 h_y3 h=>Zck 6 _ _ Y (by kernel_rfl) Y Y (fun h=>by cases h) (fun _=>by exact EL.ext (.wr rfl rfl rfl <| .keep <| .keep <| .nil)) (ZY [] (ZfQ h_y3) (.cons (ov Y) (.dat Y) .nil) .nil Y (.keep Y Y<|.keep Y Y<|.keep Y Y<|.keep Y Y<|.lent 0 (.inr ⟨Nat.le_of_ble_eq_true Y, Y⟩) Y (roM D4) .nil) Y Y<|.own _<|.inr ⟨Nat.le_of_ble_eq_true Y, Y⟩)<|Zck 8 _ _ Y (by kernel_rfl) Y Y (fun h=>by cases h) (fun _=>by exact EL.ext (.wr rfl rfl rfl <| .keep <| .keep <| .nil)) (Zr (ov Y) (ov Y) (Zl Zc5) Y Y Y (Nat.le_of_ble_eq_true Y) (Zc Y) Y)<|Dq 9 Y (Zo (ov Y) Y Y ZbO)<|Zck 10 _ _ Y (by kernel_rfl) Y Y (fun h=>by cases h) (fun _=>by exact EL.ext (.wr rfl rfl rfl <| .keep <| .keep <| .nil)) (Zr (ov Y) (ov Y) (Zl Zf7) Y Y Y (Nat.le_of_ble_eq_true Y) (Zc Y) Y)<|Dq 11 Y (Zo (ov Y) Y Y Zc7)<|Zck 12 _ _ Y (by kernel_rfl) Y Y (fun h=>by cases h) (fun _=>by exact EL.ext (.wr rfl rfl rfl <| .keep <| .keep <| .nil)) (Zr (ov Y) (ov Y) (Zl Zhf) Y Y Y (Nat.le_of_ble_eq_true Y) (Zc Y) Y)<|Dd<|K2 1 2 Y<|QU [some ⟨43, [[.int .i64 m.Slots, .int .i64 m.Limit, .own 2 sectors.length, .own 3 y2.length, .own 4 y3.length]]⟩, some ⟨43, [[.int .i64 0, .int .i64 0, .nils, .nils, .nils]]⟩, some ⟨47, List.map O47 sectors⟩, some ⟨3, List.map R3 y2⟩, some ⟨4, List.map R4 y3⟩] Y<|Tr<|Rq Y (Q9 (ov Y) Y Y Y J7 Y Y)<|Rx Y (Zr (ov Y) (ov Y) (ZI J7 Y) Y Y Y (Nat.le_of_ble_eq_true Y) (Zc Y) Y)<|Za<|?_
   obtain rfl := rt h
   exact Zi<|ZaU [some 2, some 3, some 4] Y (.cons (.agg Y Y Y Y J7 Y Y) .nil) (.cons Y (roO Zfn)<|.cons Y (roM D3)<|.cons Y (roM D4) .nil) Y Y<|Zdz<|rlc (.dat Y)<|rlc (.dat Y)<|rlc (.own _ Y)<|rlc (.own _ Y)<|rlc (.own _ Y) rln
  ·
   refine Dq 5 Y (ZM (ov Y) Y Y Y Zhf Y)<|XK 7 _ Y (by kernel_rfl) Y Y Y (EL.ext<|.wr Y Y Y<|.keep<|.keep .nil) (fun hp' hx=>exW (r := 0) hx Y fun _ ho hn => Zo (ov Y) ho hn Jp)<|bE h fun y3 h_y3 h=>Zck 6 _ _ Y (by kernel_rfl) Y Y (fun h=>by cases h) (fun _=>by exact EL.ext (.wr rfl rfl rfl <| .keep <| .keep <| .nil)) (ZY [] (ZfQ h_y3) (.cons (ov Y) (.dat Y) .nil) .nil Y (.keep Y Y<|.keep Y Y<|.keep Y Y<|.keep Y Y<|.lent 0 (.inr ⟨Nat.le_of_ble_eq_true Y, Y⟩) Y (roM D4) .nil) Y Y<|.own _<|.inr ⟨Nat.le_of_ble_eq_true Y, Y⟩)<|Zck 8 _ _ Y (by kernel_rfl) Y Y (fun h=>by cases h) (fun _=>by exact EL.ext (.wr rfl rfl rfl <| .keep <| .keep <| .nil)) (Zr (ov Y) (ov Y) (Zl Zc5) Y Y Y (Nat.le_of_ble_eq_true Y) (Zc Y) Y)<|Dq 9 Y (Zo (ov Y) Y Y ZbO)<|Zck 10 _ _ Y (by kernel_rfl) Y Y (fun h=>by cases h) (fun _=>by exact EL.ext (.wr rfl rfl rfl <| .keep <| .keep <| .nil)) (Zr (ov Y) (ov Y) (Zl Zf7) Y Y Y (Nat.le_of_ble_eq_true Y) (Zc Y) Y)<|Dq 11 Y (Zo (ov Y) Y Y Zc7)<|Zck 12 _ _ Y (by kernel_rfl) Y Y (fun h=>by cases h) (fun _=>by exact EL.ext (.wr rfl rfl rfl <| .keep <| .keep <| .nil)) (Zr (ov Y) (ov Y) (Zl Zhf) Y Y Y (Nat.le_of_ble_eq_true Y) (Zc Y) Y)<|Dd<|K2 1 2 Y<|QU [some ⟨43, [[.int .i64 m.Slots, .int .i64 m.Limit, .own 2 sectors.length, .own 3 y2.length, .own 4 y3.length]]⟩, some ⟨43, [[.int .i64 0, .int .i64 0, .nils, .nils, .nils]]⟩, some ⟨47, List.map O47 sectors⟩, some ⟨3, List.map R3 y2⟩, some ⟨4, List.map R4 y3⟩] Y<|Tr<|Rq Y (Q9 (ov Y) Y Y Y J7 Y Y)<|Rx Y (Zr (ov Y) (ov Y) (ZI J7 Y) Y Y Y (Nat.le_of_ble_eq_true Y) (Zc Y) Y)<|Za<|?_
   obtain rfl := rt h
   exact Zi<|ZaU [some 2, some 3, some 4] Y (.cons (.agg Y Y Y Y J7 Y Y) .nil) (.cons Y (roO Zfn)<|.cons Y (roM D3)<|.cons Y (roM D4) .nil) Y Y<|Zdz<|rlc (.dat Y)<|rlc (.dat Y)<|rlc (.own _ Y)<|rlc (.own _ Y)<|rlc (.own _ Y) rln
theorem Ze6 {l : List api_Memory} {r : (List api_Memory)} (h : XU l = some r) :
 GSpec Tryd.prog gl0 31 [.sl 43 (List.map R43 l)] [] (.own 0 r.length) [some ⟨43, List.map O43 r⟩] := by
 unfold XU at h
 replace h := Qr h
 refine Qz (by kernel_rfl) Tryd.func31 Y Y<|?_
 intro w0 A W φ0
 refine Tr<|Ra Y<|Za<|K1 0 Y<|Tr<|Ra Y<|Za<|I1 (fun out=>⟨[(3, .own 0 out.length)], [some ⟨43, List.map O43 out⟩]⟩) h (fun h=>?_) fun out h=>?_
 ·
  refine Tr<|Rm Y<|Rl tZ_43 JV Y<|Rm Y<|Za<|Ze<|?_
  obtain ⟨r1, hl1, ho1⟩ := QH h
  refine L2 (fun out2 i=>⟨[(3, .own 0 out2.length), (6, .sl 43 (List.map R43 l)), (7, .int .i64 (l.length : Int)), (8, .int .i64 i)], [some ⟨43, List.map O43 out2⟩]⟩) hl1 (ES [none]) fun n1 out2 i h=>?_
  unfold XN at h
  refine Tr<|R2 ZD Y<|Za<|Zg<|If h Y (fun h=>?_) fun h=>?_
  ·
   exact Zf<|Zg<|Ze<|K4 3 6 7 8 Y<|Tr<|bE h fun x h_x h=>Rq Y (ZQ (ov Y) (ov Y) JV h_x)<|Rq Y (Z9 (ov Y) J7 Y Y)<|Rx Y (Qk (row := [_, _, _, _, _]) 1 Y Zgs Y tZ_43)<|Rx Y (Zr (ov Y) (ov Y) (ZI J7 Y) Y Y Y (Nat.le_of_ble_eq_true Y) (Zc Y) Y)<|Za<|K5 3 5 6 7 8 Y<|QU [some ⟨43, List.map O43 out2⟩, some ⟨43, [[.int .i64 x.Slots, .int .i64 x.Limit, .sl 47 (List.map R47 x.Sectors), .sl 3 (List.map R3 x.Wear), .sl 4 (List.map R4 x.Bad)]]⟩] Y<|Zk<|Rm Y<|Rq Y (Q9 (ov Y) Y Y Y J7 Y Y)<|bE h fun y h_y h=>Rx Y (ZY [] (ZbJ h_y) (.cons (ov Y) (Zdz<|rld Y) .nil) .nil Y (.keep Y Y<|.keep Y Y<|.lent 0 (.inr ⟨Nat.le_of_ble_eq_true Y, Y⟩) Y (roO Zfn)<|.lent 1 (.inr ⟨Nat.le_of_ble_eq_true Y, Y⟩) Y (roM D3)<|.lent 2 (.inr ⟨Nat.le_of_ble_eq_true Y, Y⟩) Y (roM D4) .nil) Y Y<|Zdz<|rlc (.dat Y)<|rlc (.dat Y)<|rlc (.own _<|.inr ⟨Nat.le_of_ble_eq_true Y, Y⟩)<|rlc (.own _<|.inr ⟨Nat.le_of_ble_eq_true Y, Y⟩)<|rlc (.own _<|.inr ⟨Nat.le_of_ble_eq_true Y, Y⟩) rln)<|Rx Y (Zi1 (r := 5) Y JV (.cons (cva<|ov Y) Y .nil) Y Y)<|bE h fun l2 h_l2 h=>Rx Y (ZfI (f := O43) (ov Y) (Zh6 (o := ⟨43, [[.int .i64 y.Slots, .int .i64 y.Limit, .own 2 y.Sectors.length, .own 3 y.Wear.length, .own 4 y.Bad.length]]⟩) (ov Y) Y Y tZ_43) JV Y Y (Zc Y) Y h_l2)<|Ra Y<|ZdQ [some ⟨43, List.set (List.map O43 l2) out2.length [.int .i64 y.Slots, .int .i64 y.Limit, .own 2 y.Sectors.length, .own 3 y.Wear.length, .own 4 y.Bad.length]⟩, some ⟨43, [[.int .i64 x.Slots, .int .i64 x.Limit, .sl 47 (List.map R47 x.Sectors), .sl 3 (List.map R3 x.Wear), .sl 4 (List.map R4 x.Bad)]]⟩, some ⟨47, List.map O47 y.Sectors⟩, some ⟨3, List.map R3 y.Wear⟩, some ⟨4, List.map R4 y.Bad⟩, some ⟨43, [[.int .i64 y.Slots, .int .i64 y.Limit, .own 2 y.Sectors.length, .own 3 y.Wear.length, .own 4 y.Bad.length]]⟩] Y<|QR (Ent.absorbH (r := 0) (j := 2) (q := 2) Y (Zau h_l2) Y Y (List.length_map ..) Y)<|QR (Ent.absorbH (r := 0) (j := 3) (q := 3) Y (Zau h_l2) Y Y (List.length_map ..) Y)<|QR (Ent.absorbH (r := 0) (j := 4) (q := 4) Y (Zau h_l2) Y Y (List.length_map ..) Y)<|QR (Ent.closeS (r := 0) Y (Zau h_l2) Y)<|Za<|K4 3 6 7 8 Y<|QU [some ⟨43, List.map O43 l2⟩, some ⟨43, [[.int .i64 x.Slots, .int .i64 x.Limit, .sl 47 (List.map R47 x.Sectors), .sl 3 (List.map R3 x.Wear), .sl 4 (List.map R4 x.Bad)]]⟩, none, none, none, some ⟨43, [[.int .i64 y.Slots, .int .i64 y.Limit, .own 2 y.Sectors.length, .own 3 y.Wear.length, .own 4 y.Bad.length]]⟩] Y<|Zk<|R2 ZP Y<|Rm Y<|Za<|⟨_, h, ES [some 0] (hhp := .cons Y (roO Xj) .nil)⟩
  ·
   refine ZA<|?_
   replace h := lx h ▸ ho1
   exact ⟨_, h, ES [some 0] (hhp := .cons Y (roO Xj) .nil)⟩
 ·
  refine Tr<|Rm Y<|Ra Y<|Za<|?_
  obtain rfl := rt h
  exact Zi<|ZaU [some 0] Y (.cons (.tmp Y) .nil) (.cons Y (roO Xj) .nil) Y Y<|.own _ Y
end Go.Proofs.YtjfoenlooacoiaaDoor
