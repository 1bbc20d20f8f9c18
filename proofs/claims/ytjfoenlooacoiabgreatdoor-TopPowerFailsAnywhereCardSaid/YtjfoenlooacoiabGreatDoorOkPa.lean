/- A text of the proof: a verified executor of the program form, or the contracts of the functions that the law reaches. -/
import Derived.Test.YtjfoenlooacoiabGreatDoorVS
import Derived.Test.YtjfoenlooacoiabGreatDoorPA
import Derived.Test.YtjfoenlooacoiabGreatDoorShT
import Derived.Test.YtjfoenlooacoiabGreatDoorProg
import Derived.Test.YtjfoenlooacoiabGreatDoorLayP
set_option linter.all false
namespace Go.Proofs.YtjfoenlooacoiabGreatDoor
open Go Go.Vx
set_option maxRecDepth 10000
set_option maxHeartbeats 1000000
set_option linter.unusedVariables false
theorem tZ_5 : Tryz.prog.cellsOf 5 = 1 := by kernel_rfl
instance : SzD Tryz.prog 5 1 := ⟨tZ_5⟩
theorem tZ_56 : Tryz.prog.cellsOf 56 = 1 := by kernel_rfl
instance : SzD Tryz.prog 56 1 := ⟨tZ_56⟩
theorem tZ_3 : Tryz.prog.cellsOf 3 = 1 := by kernel_rfl
instance : SzD Tryz.prog 3 1 := ⟨tZ_3⟩
theorem tZ_4 : Tryz.prog.cellsOf 4 = 1 := by kernel_rfl
instance : SzD Tryz.prog 4 1 := ⟨tZ_4⟩
theorem tZ_55 : Tryz.prog.cellsOf 55 = 5 := by kernel_rfl
instance : SzD Tryz.prog 55 5 := ⟨tZ_55⟩
theorem tZ_28 : Tryz.prog.cellsOf 28 = 64 := by kernel_rfl
instance : SzD Tryz.prog 28 64 := ⟨tZ_28⟩
theorem Q5 : tSl Tryz.prog 46 3 1 8 = true := by kernel_rfl
theorem tZ3 : JE Tryz.prog 3 = some [.int .i64 0] := by kernel_rfl
theorem tS3 : tScal Tryz.prog 3 = true := by kernel_rfl
theorem Zd3 : JE Tryz.prog 28 = some [.int .u16 0, .int .u16 0, .int .u16 0, .int .u16 0, .int .u16 0, .int .u16 0, .int .u16 0, .int .u16 0, .int .u16 0, .int .u16 0, .int .u16 0, .int .u16 0, .int .u16 0, .int .u16 0, .int .u16 0, .int .u16 0, .int .u16 0, .int .u16 0, .int .u16 0, .int .u16 0, .int .u16 0, .int .u16 0, .int .u16 0, .int .u16 0, .int .u16 0, .int .u16 0, .int .u16 0, .int .u16 0, .int .u16 0, .int .u16 0, .int .u16 0, .int .u16 0, .int .u16 0, .int .u16 0, .int .u16 0, .int .u16 0, .int .u16 0, .int .u16 0, .int .u16 0, .int .u16 0, .int .u16 0, .int .u16 0, .int .u16 0, .int .u16 0, .int .u16 0, .int .u16 0, .int .u16 0, .int .u16 0, .int .u16 0, .int .u16 0, .int .u16 0, .int .u16 0, .int .u16 0, .int .u16 0, .int .u16 0, .int .u16 0, .int .u16 0, .int .u16 0, .int .u16 0, .int .u16 0, .int .u16 0, .int .u16 0, .int .u16 0, .int .u16 0] := by kernel_rfl
theorem X8 : tArr Tryz.prog 28 64 26 1 = true := by kernel_rfl
theorem Xn : tAgg Tryz.prog 28 64 = true := by kernel_rfl
theorem tI3 : tInt Tryz.prog 3 .i64 = true := by kernel_rfl
theorem Zdg : tInt Tryz.prog 26 .u16 = true := by kernel_rfl
theorem ZnM : tStr Tryz.prog 9 = true := by kernel_rfl
theorem tI5 : tInt Tryz.prog 5 .u8 = true := by kernel_rfl
theorem Je : tScal Tryz.prog 26 = true := by kernel_rfl
theorem ZnK : tArr Tryz.prog 102 4 26 1 = true := by kernel_rfl
theorem tB4 : (match Tryz.prog.underlying 4 with | some .bool => true | _ => false) = true := by kernel_rfl
theorem Zc5 : tSl Tryz.prog 23 28 64 128 = true := by kernel_rfl
theorem ZaB : tSl Tryz.prog 22 55 5 88 = true := by kernel_rfl
theorem Za2 : tAgg Tryz.prog 55 5 = true := by kernel_rfl
theorem ZhO : JE Tryz.prog 55 = some [.int .i64 0, .int .i64 0, .slice none 0 0, .slice none 0 0, .slice none 0 0] := by kernel_rfl
theorem Jw : tFld Tryz.prog 55 2 2 = true := by kernel_rfl
theorem ZdB : tScal Tryz.prog 52 = true := by kernel_rfl
theorem Zcd : tSl Tryz.prog 52 56 1 24 = true := by kernel_rfl
theorem Zet : tFld Tryz.prog 55 0 0 = true := by kernel_rfl
theorem Zf7 : tFld Tryz.prog 55 1 1 = true := by kernel_rfl
theorem Zc9 : tFld Tryz.prog 55 3 3 = true := by kernel_rfl
theorem ZhN : tScal Tryz.prog 46 = true := by kernel_rfl
theorem ZdK : tFld Tryz.prog 55 4 4 = true := by kernel_rfl
theorem ZhM : tScal Tryz.prog 53 = true := by kernel_rfl
theorem Zix : tSl Tryz.prog 53 4 1 1 = true := by kernel_rfl
theorem Zfl : tScal Tryz.prog 56 = true := by kernel_rfl
theorem XR : tSl Tryz.prog 56 5 1 1 = true := by kernel_rfl
theorem tS4 : tScal Tryz.prog 4 = true := by kernel_rfl
theorem tS5 : tScal Tryz.prog 5 = true := by kernel_rfl
theorem ZeT : ZcS Tryz.prog 95 = some [(0, 1), (1, 1)] := by kernel_rfl
theorem ZeW : Ze9 Tryz.prog 95 = true := by kernel_rfl
theorem ZhF : JE Tryz.prog 95 = some [.int .i64 0, .int .i64 0] := by kernel_rfl
theorem Zcb : tSl Tryz.prog 59 95 2 16 = true := by kernel_rfl
theorem tZ_95 : Tryz.prog.cellsOf 95 = 2 := by kernel_rfl
instance : SzD Tryz.prog 95 2 := ⟨tZ_95⟩
theorem Zn1 : tArr Tryz.prog 120 4 3 1 = true := by kernel_rfl
theorem Zpn : JE Tryz.prog 120 = some [.int .i64 0, .int .i64 0, .int .i64 0, .int .i64 0] := by kernel_rfl
theorem ZpL : ZcS Tryz.prog 75 = some [(0, 2), (2, 1), (3, 1), (4, 1), (5, 1), (6, 1)] := by kernel_rfl
theorem Zps : Ze9 Tryz.prog 75 = true := by kernel_rfl
theorem ZpX : JE Tryz.prog 75 = some [.slice none 0 0, .slice none 0 0, .int .i64 0, .bool false, .bool false, .int .i64 0, .bool false] := by kernel_rfl
theorem Zp4 : tAgg Tryz.prog 75 7 = true := by kernel_rfl
theorem ZoV : (match Tryz.prog.underlying 56 with | some (.slice _) => true | _ => false) = true := by kernel_rfl
theorem Zow : (match Tryz.prog.underlying 46 with | some (.slice _) => true | _ => false) = true := by kernel_rfl
theorem Zoz : (match Tryz.prog.underlying 53 with | some (.slice _) => true | _ => false) = true := by kernel_rfl
theorem Zd9 : tFld Tryz.prog 75 0 0 = true := by kernel_rfl
theorem ZdH : tFld Tryz.prog 73 0 0 = true := by kernel_rfl
theorem ZiQ : tScal Tryz.prog 22 = true := by kernel_rfl
theorem Zk0 : JE Tryz.prog 78 = some [.int .i64 0, .int .i64 0] := by kernel_rfl
theorem tZ_78 : Tryz.prog.cellsOf 78 = 2 := by kernel_rfl
instance : SzD Tryz.prog 78 2 := ⟨tZ_78⟩
theorem ZpT : JE Tryz.prog 96 = some [.nilFunc] := by kernel_rfl
theorem tZ_96 : Tryz.prog.cellsOf 96 = 1 := by kernel_rfl
instance : SzD Tryz.prog 96 1 := ⟨tZ_96⟩
theorem ZoL : tScal Tryz.prog 96 = true := by kernel_rfl
theorem Zg3 : tArr Tryz.prog 174 16 5 1 = true := by kernel_rfl
theorem ZiV : tInt Tryz.prog 83 .u64 = true := by kernel_rfl
theorem Zmi : ZcS Tryz.prog 78 = some [(0, 1), (1, 1)] := by kernel_rfl
theorem ZlT : Ze9 Tryz.prog 78 = true := by kernel_rfl
theorem ZiR : tAgg Tryz.prog 78 2 = true := by kernel_rfl
theorem ZfU : tFld Tryz.prog 78 0 0 = true := by kernel_rfl
theorem Zkl : tArr Tryz.prog 173 97 5 1 = true := by kernel_rfl
theorem ZgZ : tFld Tryz.prog 78 1 1 = true := by kernel_rfl
theorem Ze0 : tFld Tryz.prog 73 1 1 = true := by kernel_rfl
theorem Zj3 : tScal Tryz.prog 71 = true := by kernel_rfl
theorem ZjL : tSl Tryz.prog 71 78 2 16 = true := by kernel_rfl
theorem ZjC : tFld Tryz.prog 75 2 3 = true := by kernel_rfl
theorem tZ_75 : Tryz.prog.cellsOf 75 = 7 := by kernel_rfl
instance : SzD Tryz.prog 75 7 := ⟨tZ_75⟩
theorem Zma : tFld Tryz.prog 75 3 4 = true := by kernel_rfl
theorem Zn9 : tFld Tryz.prog 75 1 2 = true := by kernel_rfl
theorem ZnX : JE Tryz.prog 114 = some [.int .u8 0, .int .u8 0, .int .u8 0, .int .u8 0, .int .u8 0, .int .u8 0, .int .u8 0, .int .u8 0, .int .u8 0, .int .u8 0, .int .u8 0, .int .u8 0, .int .u8 0, .int .u8 0, .int .u8 0, .int .u8 0, .int .u8 0, .int .u8 0, .int .u8 0, .int .u8 0, .int .u8 0, .int .u8 0, .int .u8 0, .int .u8 0, .int .u8 0, .int .u8 0, .int .u8 0, .int .u8 0, .int .u8 0, .int .u8 0, .int .u8 0, .int .u8 0, .int .u8 0, .int .u8 0, .int .u8 0, .int .u8 0, .int .u8 0, .int .u8 0, .int .u8 0, .int .u8 0, .int .u8 0, .int .u8 0, .int .u8 0, .int .u8 0, .int .u8 0, .int .u8 0, .int .u8 0, .int .u8 0, .int .u8 0, .int .u8 0, .int .u8 0, .int .u8 0, .int .u8 0, .int .u8 0, .int .u8 0, .int .u8 0, .int .u8 0, .int .u8 0, .int .u8 0, .int .u8 0, .int .u8 0, .int .u8 0, .int .u8 0, .int .u8 0, .int .u8 0, .int .u8 0, .int .u8 0, .int .u8 0, .int .u8 0, .int .u8 0, .int .u8 0, .int .u8 0, .int .u8 0, .int .u8 0, .int .u8 0, .int .u8 0, .int .u8 0, .int .u8 0, .int .u8 0, .int .u8 0, .int .u8 0, .int .u8 0, .int .u8 0, .int .u8 0, .int .u8 0, .int .u8 0, .int .u8 0, .int .u8 0, .int .u8 0, .int .u8 0, .int .u8 0, .int .u8 0, .int .u8 0, .int .u8 0, .int .u8 0, .int .u8 0] := by kernel_rfl
theorem tZ_114 : Tryz.prog.cellsOf 114 = 96 := by kernel_rfl
instance : SzD Tryz.prog 114 96 := ⟨tZ_114⟩
theorem ZcY : tArr Tryz.prog 114 96 5 1 = true := by kernel_rfl
theorem Zof : tFld Tryz.prog 75 4 5 = true := by kernel_rfl
theorem ZoD : tFld Tryz.prog 75 5 6 = true := by kernel_rfl
theorem ZnY : tAgg Tryz.prog 114 96 = true := by kernel_rfl
theorem ZpE : ZcS Tryz.prog 66 = some [(0, 1), (1, 1), (2, 1), (3, 1), (4, 64)] := by kernel_rfl
theorem Zph : Ze9 Tryz.prog 66 = true := by kernel_rfl
theorem ZoR : JE Tryz.prog 66 = some ([.int .i64 0, .int .i64 0, .int .i64 0, .int .i64 0] ++ (List.flatten (List.replicate 64 [.int .u16 0]))) := by kernel_rfl
theorem ZmV : tSl Tryz.prog 61 66 68 160 = true := by kernel_rfl
theorem tZ_66 : Tryz.prog.cellsOf 66 = 68 := by kernel_rfl
instance : SzD Tryz.prog 66 68 := ⟨tZ_66⟩
theorem Zj6 : tMap Tryz.prog 64 3 66 = true := by kernel_rfl
theorem ZnG : Zkf Tryz.prog 66 = some (.agg (([.int .i64 0, .int .i64 0, .int .i64 0, .int .i64 0] ++ (List.flatten (List.replicate 64 [.int .u16 0]))) : List Value).toArray) := by kernel_rfl
theorem Znb : tAgg Tryz.prog 66 68 = true := by kernel_rfl
theorem Zmk : tFld Tryz.prog 66 4 4 = true := by kernel_rfl
theorem ZlB : tFld Tryz.prog 66 2 2 = true := by kernel_rfl
theorem tZ_64 : Tryz.prog.cellsOf 64 = 1 := by kernel_rfl
instance : SzD Tryz.prog 64 1 := ⟨tZ_64⟩
theorem ZmY : Zl3 Tryz.prog 66 4 4 28 64 = true := by kernel_rfl
def gl0 : Gl := ⟨1, [(0, (gv_frame_syncs.toList.map fun z => Value.int .u16 z).toArray)]⟩
def R5 (x : Int) : List AV := [.int .u8 x]
def R56 (x : List Int) : List AV := [.sl 5 (List.map R5 x)]
def R3 (x : Int) : List AV := [.int .i64 x]
def R4 (x : Bool) : List AV := [.bool x]
def R55 (x : api_Memory) : List AV := [.int .i64 x.Slots, .int .i64 x.Limit, .sl 56 (List.map R56 x.Sectors), .sl 3 (List.map R3 x.Wear), .sl 4 (List.map R4 x.Bad)]
def C26 (x : Int) : AV := .int .u16 x
def R28 (x : Vector Int 64) : List AV := (List.map C26 x.toList)
theorem D3 (x : Int) : (R3 x).length = Tryz.prog.cellsOf 3 ∧ (R3 x).all datB = true := ⟨tZ_3.symm, rfl⟩
instance : RowD Tryz.prog 3 R3 := ⟨D3⟩
def R95 (x : api_Flaw) : List AV := [.int .i64 x.Word, .int .i64 x.Kind]
theorem D95 (x : api_Flaw) : (R95 x).length = Tryz.prog.cellsOf 95 ∧ (R95 x).all datB = true := ⟨tZ_95.symm, rfl⟩
instance : RowD Tryz.prog 95 R95 := ⟨D95⟩
def C3 (x : Int) : AV := .int .i64 x
theorem D5 (x : Int) : (R5 x).length = Tryz.prog.cellsOf 5 ∧ (R5 x).all datB = true := ⟨tZ_5.symm, rfl⟩
instance : RowD Tryz.prog 5 R5 := ⟨D5⟩
theorem D56 (x : List Int) : (R56 x).length = Tryz.prog.cellsOf 56 ∧ (R56 x).all datB = true := ⟨tZ_56.symm, rfl⟩
instance : RowD Tryz.prog 56 R56 := ⟨D56⟩
theorem DR5 (x : Int) : (R5 x).length = Tryz.prog.cellsOf 5 ∧ Zcj Tryz.prog (R5 x) := ⟨(D5 x).1, dlF rfl⟩
def O56 (x : List Int) : List AV := [.osub 5 (List.map R5 x)]
theorem ZfS (x : List Int) : (O56 x).length = Tryz.prog.cellsOf 56 ∧ Zcj Tryz.prog (O56 x) := ⟨tZ_56.symm, dlC (dcS DR5) <| dlN⟩
theorem ZpA (x : List Int) : Pw (MeltC Tryz.prog) (O56 x) (R56 x) := .cons (mcS DR5 (fun x => (D5 x).1) (fun _ => mcF rfl)) <| .nil
theorem D4 (x : Bool) : (R4 x).length = Tryz.prog.cellsOf 4 ∧ (R4 x).all datB = true := ⟨tZ_4.symm, rfl⟩
instance : RowD Tryz.prog 4 R4 := ⟨D4⟩
theorem D55 (x : api_Memory) : (R55 x).length = Tryz.prog.cellsOf 55 ∧ (R55 x).all datB = true := ⟨tZ_55.symm, rfl⟩
instance : RowD Tryz.prog 55 R55 := ⟨D55⟩
theorem DR3 (x : Int) : (R3 x).length = Tryz.prog.cellsOf 3 ∧ Zcj Tryz.prog (R3 x) := ⟨(D3 x).1, dlF rfl⟩
theorem DR4 (x : Bool) : (R4 x).length = Tryz.prog.cellsOf 4 ∧ Zcj Tryz.prog (R4 x) := ⟨(D4 x).1, dlF rfl⟩
def O55 (x : api_Memory) : List AV := [.int .i64 x.Slots, .int .i64 x.Limit, .osub 56 (List.map O56 x.Sectors), .osub 3 (List.map R3 x.Wear), .osub 4 (List.map R4 x.Bad)]
theorem Xj (x : api_Memory) : (O55 x).length = Tryz.prog.cellsOf 55 ∧ Zcj Tryz.prog (O55 x) := ⟨tZ_55.symm, dlC (.flat rfl) <| dlC (.flat rfl) <| dlC (dcS ZfS) <| dlC (dcS DR3) <| dlC (dcS DR4) <| dlN⟩
theorem Zj2 (x : api_Memory) : Pw (MeltC Tryz.prog) (O55 x) (R55 x) := .cons (.dat rfl) <| .cons (.dat rfl) <| .cons (mcS ZfS (fun x => (D56 x).1) ZpA) <| .cons (mcS DR3 (fun x => (D3 x).1) (fun _ => mcF rfl)) <| .cons (mcS DR4 (fun x => (D4 x).1) (fun _ => mcF rfl)) <| .nil
def C5 (x : Int) : AV := .int .u8 x
def R78 (x : ring_spot) : List AV := [.int .i64 x.sector, .int .i64 x.slot]
theorem D78 (x : ring_spot) : (R78 x).length = Tryz.prog.cellsOf 78 ∧ (R78 x).all datB = true := ⟨tZ_78.symm, rfl⟩
instance : RowD Tryz.prog 78 R78 := ⟨D78⟩
theorem E28 (x : Vector Int 64) : (R28 x).all c1B = true := (arC fun _ => rfl)
theorem D28 (x : Vector Int 64) : (R28 x).length = Tryz.prog.cellsOf 28 ∧ (R28 x).all datB = true := ⟨Eq.trans (b := 64) arL tZ_28.symm, (arD fun _ => rfl)⟩
instance : RowD Tryz.prog 28 R28 := ⟨D28⟩
theorem at1 {a0 : AV} {a1 : AV} {a2 : AV} {a3 : AV} {v4 : Vector Int 64} : At ((a0) :: (a1) :: (a2) :: (a3) :: ((List.map C26 v4.toList) ++ ([]))) 0 1 ([a0]) := at0 (hdc (n := 0) hd0)
theorem pt2 {a0 : AV} {a1 : AV} {a2 : AV} {a3 : AV} {v4 : Vector Int 64} {b0 : AV} : Put ((a0) :: (a1) :: (a2) :: (a3) :: ((List.map C26 v4.toList) ++ ([]))) 0 ([b0]) ((b0) :: (a1) :: (a2) :: (a3) :: ((List.map C26 v4.toList) ++ ([]))) := Znl
theorem at3 {a0 : AV} {a1 : AV} {a2 : AV} {a3 : AV} {v4 : Vector Int 64} : At ((a0) :: (a1) :: (a2) :: (a3) :: ((List.map C26 v4.toList) ++ ([]))) 1 1 ([a1]) := atc (o := 0) (at0 (hdc (n := 0) hd0))
theorem pt4 {a0 : AV} {a1 : AV} {a2 : AV} {a3 : AV} {v4 : Vector Int 64} {b1 : AV} : Put ((a0) :: (a1) :: (a2) :: (a3) :: ((List.map C26 v4.toList) ++ ([]))) 1 ([b1]) ((a0) :: (b1) :: (a2) :: (a3) :: ((List.map C26 v4.toList) ++ ([]))) := ZhQ (o := 0) (Znl)
theorem at5 {a0 : AV} {a1 : AV} {a2 : AV} {a3 : AV} {v4 : Vector Int 64} : At ((a0) :: (a1) :: (a2) :: (a3) :: ((List.map C26 v4.toList) ++ ([]))) 2 1 ([a2]) := atc (o := 1) (atc (o := 0) (at0 (hdc (n := 0) hd0)))
theorem pt6 {a0 : AV} {a1 : AV} {a2 : AV} {a3 : AV} {v4 : Vector Int 64} {b2 : AV} : Put ((a0) :: (a1) :: (a2) :: (a3) :: ((List.map C26 v4.toList) ++ ([]))) 2 ([b2]) ((a0) :: (a1) :: (b2) :: (a3) :: ((List.map C26 v4.toList) ++ ([]))) := ZhQ (o := 1) (ZhQ (o := 0) (Znl))
theorem at7 {a0 : AV} {a1 : AV} {a2 : AV} {a3 : AV} {v4 : Vector Int 64} : At ((a0) :: (a1) :: (a2) :: (a3) :: ((List.map C26 v4.toList) ++ ([]))) 3 1 ([a3]) := atc (o := 2) (atc (o := 1) (atc (o := 0) (at0 (hdc (n := 0) hd0))))
theorem pt8 {a0 : AV} {a1 : AV} {a2 : AV} {a3 : AV} {v4 : Vector Int 64} {b3 : AV} : Put ((a0) :: (a1) :: (a2) :: (a3) :: ((List.map C26 v4.toList) ++ ([]))) 3 ([b3]) ((a0) :: (a1) :: (a2) :: (b3) :: ((List.map C26 v4.toList) ++ ([]))) := ZhQ (o := 2) (ZhQ (o := 1) (ZhQ (o := 0) (Znl)))
theorem at9 {a0 : AV} {a1 : AV} {a2 : AV} {a3 : AV} {v4 : Vector Int 64} : At ((a0) :: (a1) :: (a2) :: (a3) :: ((List.map C26 v4.toList) ++ ([]))) 4 64 ((List.map C26 v4.toList)) := atc (o := 3) (atc (o := 2) (atc (o := 1) (atc (o := 0) (at0 (hdw arL)))))
theorem ZpS {a0 : AV} {a1 : AV} {a2 : AV} {a3 : AV} {v4 : Vector Int 64} {w4 : Vector Int 64} : Put ((a0) :: (a1) :: (a2) :: (a3) :: ((List.map C26 v4.toList) ++ ([]))) 4 ((List.map C26 w4.toList)) ((a0) :: (a1) :: (a2) :: (a3) :: ((List.map C26 w4.toList) ++ ([]))) := ZhQ (o := 3) (ZhQ (o := 2) (ZhQ (o := 1) (ZhQ (o := 0) (Zp9 (Eq.trans arL (Eq.symm arL))))))
theorem ZcU {a0 : AV} {a1 : AV} {a2 : AV} {a3 : AV} {v4 : Vector Int 64} : ((a0) :: (a1) :: (a2) :: (a3) :: ((List.map C26 v4.toList) ++ ([]))).length = 68 := lnC (n := 67) (lnC (n := 66) (lnC (n := 65) (lnC (n := 64) (lnA (m := 64) (n := 0) arL (lnN)))))
theorem Ze6 {x0 : Int} {x1 : Int} {x2 : Int} {x3 : Int} {v4 : Vector Int 64} : ((.int .i64 x0) :: (.int .i64 x1) :: (.int .i64 x2) :: (.int .i64 x3) :: ((List.map C26 v4.toList) ++ ([]))).all datB = true := alC rfl (alC rfl (alC rfl (alC rfl (alA (arD fun _ => rfl) (alN)))))
def R66 (x : api_Kept) : List AV := (.int .i64 x.Memory) :: (.int .i64 x.Sector) :: (.int .i64 x.Sequence) :: (.int .i64 x.Slot) :: ((List.map C26 x.Frame.toList) ++ ([]))
theorem ZoU {x0 : Int} {x1 : Int} {x2 : Int} {x3 : Int} {v4 : Vector Int 64} : ((.int .i64 x0) :: (.int .i64 x1) :: (.int .i64 x2) :: (.int .i64 x3) :: ((List.map C26 v4.toList) ++ ([]))).all c1B = true := alC rfl (alC rfl (alC rfl (alC rfl (alA (arC fun _ => rfl) (alN)))))
theorem E66 (x : api_Kept) : (R66 x).all c1B = true := ZoU
theorem D66 (x : api_Kept) : (R66 x).length = Tryz.prog.cellsOf 66 ∧ (R66 x).all datB = true := ⟨Eq.trans (b := 68) ZcU tZ_66.symm, Ze6⟩
instance : RowD Tryz.prog 66 R66 := ⟨D66⟩
def FK3 (x : Int) : AV := .int .i64 x
theorem ZoO : KeyOK Tryz.prog 3 FK3 kqI := ZmX (fun _ => rfl) tI3
def ZeH (x : api_Kept) : AV := .agg ((.int .i64 x.Memory) :: (.int .i64 x.Sector) :: (.int .i64 x.Sequence) :: (.int .i64 x.Slot) :: ((List.map C26 x.Frame.toList) ++ ([])))
theorem Zp8 {x0 : Int} {x1 : Int} {x2 : Int} {x3 : Int} {v4 : Vector Int 64} : NS ((.int .i64 x0) :: (.int .i64 x1) :: (.int .i64 x2) :: (.int .i64 x3) :: ((List.map C26 v4.toList) ++ ([]))) := nsC rfl (nsC rfl (nsC rfl (nsC rfl (nsA (nsM fun _ => rfl) (nsR rfl)))))
theorem Zpg : ZoF Tryz.prog 28 ((List.replicate 64 ([.i .u16])).flatten) := ⟨by kernel_rfl, by kernel_rfl, by kernel_rfl⟩
theorem ZeL {x : Int} {r : Int} (h : Jo x = some r) :
 CSpec Tryz.prog gl0 72 [.int .u16 x] (.int .i64 r) := by
 unfold Jo at h
 replace h := Qo h
 refine So Tryz.func72 Y fun w0 A=>Tr<|Ra Y<|Za<|Zg<|Qn (cw := md0) (by kernel_rfl)<|D1 0 Zb Y<|bE h fun q h_q h=>Dq 1 Y (ZbQ (ov Y) (ov Y) h_q)<|bE h fun b h_b h=>Dq 2 Y (Zjb (ov Y) (ov Y) ZnM h_b)<|D1 3 Zb Y<|D2 4 ZbG Y<|bE h fun b2 h_b2 h=>Dq 5 Y (Zjb (ov Y) (ov Y) ZnM h_b2)<|D2 6 ZN Y<|Dq 7 Y (QI (ov Y) tI5 tI3 Y)<|D1 8 Q1 Y<|Dd<|?_
 obtain rfl := rt h
 exact Zj (ZE Y (.one<|rb Y))
theorem Zco {w : Int} {r : Bool} (h : JU w = some r) :
 CSpec Tryz.prog gl0 48 [.int .u16 w] (.bool r) := by
 unfold JU at h
 replace h := Qo h
 refine So Tryz.func48 Y fun w0 A=>Tr<|Ra Y<|Za<|Tr<|Rm Y<|R2 Zho Y<|Rm Y<|Rq Y (.guarded ((decide (w ≤ 4095)) == true) Y Y Y Y fun h => Zb<|ov Y)<|bE h fun y h_y h=>Rq Y (.guarded ((decide (w ≤ 4095)) == true) Y Y Y Y fun h => Zn (ZeL<|gdT h_y h)<|.cons (ow Y h) (.b Y) .nil)<|bE h fun q h_q h=>Rq Y (.guarded ((decide (w ≤ 4095)) == true) Y Y Y Y fun h => Zab (ow Y h) (ov Y)<|gdT h_q h)<|Rq Y (.guarded ((decide (w ≤ 4095)) == true) Y Y Y Y fun h => Za1 (ow Y h)<|ov Y)<|Rq Y (Zb2 (ov Y) fun hp=>ow Y<|gT hp)<|Ra Y<|Za<|?_
 obtain rfl := rt h
 exact Zj (ZE Y (.one<|rb Y))
theorem JT {data : Int} {r : Int} (h : Q8 data = some r) :
 CSpec Tryz.prog gl0 31 [.int .i64 data] (.int .u16 r) := by
 unfold Q8 at h
 replace h := Qo h
 refine So Tryz.func31 Y fun w0 A=>Tr<|Ra Y<|Za<|K1 0 Y<|Tr<|Rm Y<|Rq Y (QI (ov Y) tI3 Zdg Y)<|Ra Y<|Za<|Zg<|K1 3 Y<|Tr<|Rm Y<|bE h fun y h_y h=>Rq Y (Zn (Zco h_y)<|.cons (ov Y) (.b Y) .nil)<|R1 Xv Y<|Za<|K2 3 8 Y<|If h Y (fun h=>?_) fun h=>?_
 ·
  refine K1 3 Y<|Zk<|Rm Y<|R2 Zeo Y<|Ra Y<|Za<|K1 3 Y<|Tr<|Rm Y<|Ra Y<|Za<|?_
  obtain rfl := rt h
  exact Zj (ZE Y (.one<|rb Y))
 ·
  refine Ze<|K1 3 Y<|Tr<|Rm Y<|Ra Y<|Za<|?_
  obtain rfl := rt h
  exact Zj (ZE Y (.one<|rb Y))
theorem JY {w : Int} {r : Int} (h : Xw w = some r) :
 CSpec Tryz.prog gl0 49 [.int .u16 w] (.int .i64 r) := by
 unfold Xw at h
 replace h := Qo h
 refine So Tryz.func49 Y fun w0 A=>Tr<|Ra Y<|Za<|Tr<|Rm Y<|R2 ZbG Y<|Rq Y (QI (ov Y) Zdg tI3 Y)<|Ra Y<|Za<|?_
 obtain rfl := rt h
 exact Zj (ZE Y (.one<|rb Y))
theorem ZbF {f : Vector Int 64} {r : Int} (h : Xa f = some r) :
 CSpec Tryz.prog gl0 47 [.rp (List.map C26 f.toList) 0] (.int .i64 r) := by
 unfold Xa at h
 replace h := Qo h
 refine So Tryz.func47 Y fun w0 A=>Tr<|Ra Y<|Za<|Zg<|Qn (cw := md0) (by kernel_rfl)<|D1 0 Zb Y<|D1 1 ZG Y<|bE h fun x h_x h=>Dq 2 Y (QB (ov Y) (ov Y) X8 h_x)<|Dq 3 Y (Zd (ov Y) Je<|Z8<|QV (o := 0) (o' := ((Int.toNat 1) * 1)) (Zl arL)<|QW h_x)<|bE h fun y h_y h=>Dq 4 Y (Zn (JY h_y)<|.cons (ov Y) (.b Y) .nil)<|D1 5 Zb Y<|D1 6 ZG Y<|bE h fun x2 h_x2 h=>Dq 7 Y (QB (ov Y) (ov Y) X8 h_x2)<|Dq 8 Y (Zd (ov Y) Je<|Z8<|QV (o := 0) (o' := ((Int.toNat 2) * 1)) (Zl arL)<|QW h_x2)<|bE h fun y2 h_y2 h=>Dq 9 Y (Zn (JY h_y2)<|.cons (ov Y) (.b Y) .nil)<|bE h fun q h_q h=>Dq 10 Y (Zdx (ov Y) (ov Y) h_q)<|D2 11 Zeo Y<|D1 12 Q1 Y<|Dd<|?_
 obtain rfl := rt h
 exact Zj (ZE Y (.one<|rb Y))
theorem ZdX {f : Vector Int 64} {r : Int} (h : Jt f = some r) :
 CSpec Tryz.prog gl0 50 [.rp (List.map C26 f.toList) 0] (.int .i64 r) := by
 unfold Jt at h
 replace h := Qo h
 refine So Tryz.func50 Y fun w0 A=>Tr<|Ra Y<|Za<|K1 0 Y<|Tr<|Ra Y<|Za<|I1 (fun n=>⟨[(3, .int .i64 n)], []⟩) h (fun h=>?_) fun n h=>?_
 ·
  refine Tr<|Rm Y<|Za<|Zf<|?_
  obtain ⟨r1, hl1, ho1⟩ := QO h
  refine L2 (fun n2 i=>⟨[(0, .rp (List.map C26 f.toList) 0), (3, .int .i64 n2), (5, .int .i64 i)], []⟩) hl1 (ES []) fun n1 n2 i h=>?_
  unfold XK at h
  refine Tr<|R2 ZH Y<|Za<|Zg<|If h Y (fun h=>?_) fun h=>?_
  ·
   exact Ze<|Zg<|Zf<|K3 0 3 5 Y<|Tr<|Rm Y<|Ra Y<|Za<|K4 0 3 4 5 Y<|Zk<|Rm Y<|Rm Y<|Rm Y<|R2 ZN Y<|R1 ZG Y<|bE h fun x h_x h=>Rq Y (QB (ov Y) (ov Y) X8 h_x)<|Rq Y (Zd (ov Y) Je<|Z8<|QV (o := 0) (o' := ((i64 (i + 1)).toNat * 1)) (Zl arL)<|QW h_x)<|bE h fun y h_y h=>Rq Y (Zn (JY h_y)<|.cons (ov Y) (.b Y) .nil)<|R2 Zii Y<|Ra Y<|Za<|K3 0 3 5 Y<|Zk<|R2 ZN Y<|Rm Y<|Za<|⟨_, h, ES []⟩
  ·
   refine Zw<|?_
   replace h := lx h ▸ ho1
   exact ⟨_, h, ES []⟩
 ·
  refine Tr<|Rm Y<|Ra Y<|Za<|?_
  obtain rfl := rt h
  exact Zj (ZE Y (.one<|rb Y))
theorem Zdo {f : Vector Int 64} {r : Int} (h : XB f = some r) :
 CSpec Tryz.prog gl0 51 [.rp (List.map C26 f.toList) 0] (.int .i64 r) := by
 unfold XB at h
 replace h := Qo h
 refine So Tryz.func51 Y fun w0 A=>Tr<|Ra Y<|Za<|K1 0 Y<|Tr<|Ra Y<|Za<|I1 (fun n=>⟨[(3, .int .i64 n)], []⟩) h (fun h=>?_) fun n h=>?_
 ·
  refine Tr<|Rm Y<|Za<|Zf<|?_
  obtain ⟨r1, hl1, ho1⟩ := QO h
  refine L2 (fun n2 i=>⟨[(0, .rp (List.map C26 f.toList) 0), (3, .int .i64 n2), (7, .int .i64 i)], []⟩) hl1 (ES []) fun n1 n2 i h=>?_
  unfold Xi at h
  refine Tr<|R2 ZH Y<|Za<|Zg<|If h Y (fun h=>?_) fun h=>?_
  ·
   refine Ze<|I1 (fun n3=>⟨[(0, .rp (List.map C26 f.toList) 0), (3, .int .i64 n3), (7, .int .i64 i)], []⟩) h (fun h=>?_) fun n3 h=>?_
   ·
    refine Zf<|K3 0 3 7 Y<|Tr<|Rm Y<|Ra Y<|Za<|K4 0 3 4 7 Y<|Tr<|Ra Y<|Za<|Zf<|?_
    obtain ⟨r2, hl2, ho2⟩ := QO h
    refine L2 (fun n4 k=>⟨[(0, .rp (List.map C26 f.toList) 0), (3, .int .i64 n4), (4, .int .i64 i), (5, .int .i64 k), (7, .int .i64 i)], []⟩) hl2 (ES []) fun n2 n4 k h=>?_
    unfold Q4 at h
    refine Zg<|Tr<|Rm Y<|R2 Zga Y<|Za<|K6 0 3 4 5 7 11 Y<|If h Y (fun h=>?_) fun h=>?_
    ·
     refine Ze<|Zg<|Zf<|K5 0 3 4 5 7 Y<|Tr<|Rm Y<|R2 ZbG Y<|R2 QR Y<|Ra Y<|Za<|K6 0 3 4 5 6 7 Y<|Tr<|Rm Y<|bE h fun q h_q h=>Rq Y (Zdx (ov Y) (ov Y) h_q)<|R2 ZbG Y<|Ra Y<|Za<|K6 0 3 4 5 6 7 Y<|Tr<|Rm Y<|Rm Y<|Rm Y<|R1 ZG Y<|bE h fun x h_x h=>Rq Y (QB (ov Y) (ov Y) X8 h_x)<|Rq Y (Zd (ov Y) Je<|Z8<|QV (o := 0) (o' := (i.toNat * 1)) (Zl arL)<|QW h_x)<|Rm Y<|bE h fun q2 h_q2 h=>Rq Y (ZbQ (ov Y) (ov Y) h_q2)<|R2 ZbG Y<|R2 Za1 Y<|Rq Y (ZlK .neq (by simp) (ov Y) (ov Y) tB4)<|Za<|K6 0 3 4 5 7 30 Y<|If h Y (fun h=>?_) fun h=>?_
     ·
      exact K5 0 3 4 5 7 Y<|Zk<|Rm Y<|R2 Zii Y<|Ra Y<|Za<|K5 0 3 4 5 7 Y<|Zk<|Rm Y<|R2 ZaF Y<|Ra Y<|Za<|⟨_, h, ES []⟩
     ·
      exact Ze<|K5 0 3 4 5 7 Y<|Zk<|Rm Y<|R2 ZaF Y<|Ra Y<|Za<|⟨_, h, ES []⟩
    ·
     refine Zw<|?_
     replace h := lx h ▸ ho2
     exact ⟨_, h, ES []⟩
   ·
    exact Zk<|R2 ZN Y<|Rm Y<|Za<|⟨_, h, ES []⟩
  ·
   refine Zw<|?_
   replace h := lx h ▸ ho1
   exact ⟨_, h, ES []⟩
 ·
  refine Tr<|Rm Y<|Ra Y<|Za<|?_
  obtain rfl := rt h
  exact Zj (ZE Y (.one<|rb Y))
theorem ZfB {f : Vector Int 64} {r : (Vector Int 64)} (h : JA f = some r) :
 GSpec Tryz.prog gl0 32 [.ptr 0 1 0 0] [some ⟨28, [(List.map C26 f.toList)]⟩] (.tuple []) [some ⟨28, [(List.map C26 r.toList)]⟩] := by
 unfold JA at h
 replace h := Qo h
 refine QQ (by kernel_rfl) Tryz.func32 Y Y<|?_
 intro w0 A W φ0
 refine Zg<|Qn (cw := md0) (by kernel_rfl)<|D1 0 Zb Y<|D1 1 Zb Y<|bE h fun y h_y h=>Dq 2 Y (J5 (ZbF h_y) .int<|.cons (ov Y) (View.ptr Y Y Y (pwB<|arD fun _ => Y) (hns := (nsM fun _ => Y))) .nil)<|bE h fun q h_q h=>Dq 3 Y (Zab (ov Y) (ov Y) h_q)<|bE h fun x h_x h=>Dq 4 Y (QB (og (v := gv_frame_syncs) (k := .u16) (f := C26) (by simp [gl0]) fun _=>Y) (ov Y) ZnK h_x)<|Dq 5 Y (Zd (ov Y) Je<|Z8<|QV (o := 0) (o' := (q.toNat * 1)) (Zl arL)<|QW h_x)<|Dq 6 Y (Zq (ov Y) Y Y)<|bE h fun x2 h_x2 h=>Dq 7 Y (Jc (ov Y) (ov Y) X8 Y Y h_x2)<|Do 8 Y (Zs (ov Y) (ov Y) (Zo Je) Y Y Y (arB h_x2) (Zc Y)<|arS h_x2)<|Dd<|Zg<|K1 0 Y<|Qn (cw := md0) (by kernel_rfl)<|D1 0 Zb Y<|D1 1 Zb Y<|bE h fun y2 h_y2 h=>Dq 2 Y (J5 (ZdX h_y2) .int<|.cons (ov Y) (View.ptr Y Y Y (pwB<|arD fun _ => Y) (hns := (nsM fun _ => Y))) .nil)<|bE h fun y3 h_y3 h=>Dq 3 Y (Zn (JT h_y3)<|.cons (ov Y) (.b Y) .nil)<|Dq 4 Y (Zq (ov Y) Y Y)<|bE h fun x3 h_x3 h=>Dq 5 Y (Jc (ov Y) (ov Y) X8 Y Y h_x3)<|Do 6 Y (Zs (ov Y) (ov Y) (Zo Je) Y Y Y (arB h_x3) (Zc Y)<|arS h_x3)<|Dd<|K1 0 Y<|Tr<|Rm Y<|bE h fun y4 h_y4 h=>Rq Y (J5 (Zdo h_y4) .int<|.cons (ov Y) (View.ptr Y Y Y (pwB<|arD fun _ => Y) (hns := (nsM fun _ => Y))) .nil)<|Ra Y<|Za<|K2 0 2 Y<|Qn (cw := md0) (by kernel_rfl)<|D1 0 Zb Y<|D1 2 Zb Y<|bE h fun q2 h_q2 h=>Dq 3 Y (ZbQ (ov Y) (ov Y) h_q2)<|bE h fun y5 h_y5 h=>Dq 4 Y (Zn (JT h_y5)<|.cons (ov Y) (.b Y) .nil)<|D1 5 Zb Y<|D2 6 ZbG Y<|bE h fun y6 h_y6 h=>Dq 7 Y (Zn (JT h_y6)<|.cons (ov Y) (.b Y) .nil)<|Dq 8 Y (Zq (ov Y) Y Y)<|bE h fun x4 h_x4 h=>Dq 9 Y (Jc (ov Y) (ov Y) X8 Y Y h_x4)<|Qc 1 _ Y (by kernel_rfl) Y Y (fun hp'=>Zb<|ov Y)<|Dw 11 10 Y (Zq (ov Y) Y Y) (Zs (ov Y) (ov Y) (Zo Je) Y Y Y (arB h_x4) (Zc Y)<|arS h_x4) ?_ ?_
 ·
  refine Do 10 Y (Zs (ov Y) (ov Y) (Zo Je) Y Y Y (arB h_x4) (Zc Y)<|arS h_x4)<|bE h fun x5 h_x5 h=>Dq 12 Y (Jc (ov Y) (ov Y) X8 Y Y h_x5)<|Do 13 Y (Zs (ov Y) (ov Y) (Zo Je) Y Y Y (arB h_x5) (Zc Y)<|arS h_x5)<|Dd<|?_
  obtain rfl := rt h
  exact ZdS [some 0] Y .nil (.cons Y (ro1 (by exact Eq.trans (b := 64) arL tZ_28.symm)<|rld<|arD fun _ => Y) .nil) Y Y<|Q6 rln
 ·
  refine Dq 11 Y (Zq (ov Y) Y Y)<|bE h fun x5 h_x5 h=>Dq 12 Y (Jc (ov Y) (ov Y) X8 Y Y h_x5)<|Do 13 Y (Zs (ov Y) (ov Y) (Zo Je) Y Y Y (arB h_x5) (Zc Y)<|arS h_x5)<|Dd<|?_
  obtain rfl := rt h
  exact ZdS [some 0] Y .nil (.cons Y (ro1 (by exact Eq.trans (b := 64) arL tZ_28.symm)<|rld<|arD fun _ => Y) .nil) Y Y<|Q6 rln
theorem ZdL {number : Int} {data : List Int} {r : (Vector Int 64) × Int} (h : XX number data = some r) :
 CSpec Tryz.prog gl0 14 [.int .i64 number, .sl 3 (List.map R3 data)] (.tuple [.agg (List.map C26 r.1.toList), .int .i64 r.2]) := by
 unfold XX at h
 replace h := Qo h
 refine So Tryz.func14 Y fun w0 A=>Tr<|Rx Y (Ql (row := (List.map C26 (Vector.replicate 64 0).toList)) 0 Y Zd3 Y tZ_28)<|Ra Y<|Za<|Zg<|K3 0 1 4 Y<|Tr<|Rm Y<|R2 ZH Y<|Rm Y<|Rq Y (.guarded ((decide (number < 0)) == false) Y Y Y Y fun h => Zb<|ov Y)<|Rq Y (.guarded ((decide (number < 0)) == false) Y Y Y Y fun h => Zga (ow Y h)<|ov Y)<|Rq Y (Zb9 (ov Y) fun hp=>ow Y<|gF hp)<|Za<|K4 0 1 4 14 Y<|If h Y (fun h=>?_) fun h=>?_
 ·
  refine K1 4 Y<|Tr<|R_q (.agg<|List.map C26 (#v[0, 0, 0, 0, 0, 0, 0, 0, 0, 0, 0, 0, 0, 0, 0, 0, 0, 0, 0, 0, 0, 0, 0, 0, 0, 0, 0, 0, 0, 0, 0, 0, 0, 0, 0, 0, 0, 0, 0, 0, 0, 0, 0, 0, 0, 0, 0, 0, 0, 0, 0, 0, 0, 0, 0, 0, 0, 0, 0, 0, 0, 0, 0, 0] : Vector Int 64).toList) Y (Zd8 (ys := [_, _, _, _, _, _, _, _, _, _, _, _, _, _, _, _, _, _, _, _, _, _, _, _, _, _, _, _, _, _, _, _, _, _, _, _, _, _, _, _, _, _, _, _, _, _, _, _, _, _, _, _, _, _, _, _, _, _, _, _, _, _, _, _]) X8 Zd3 .nil Y)<|Rx Y (Zs (ov Y) (ov Y) (ZK Xn arL) Y Y Y (J3 (Zl arL) arL) (Zc<|arC fun _ => Y)<|XQ<|Eq.trans arL<|Eq.symm arL)<|Ra Y<|Za<|?_
  obtain rfl := rt h
  exact Zj (ZE Y (.two (.agg Y Y Y Y Xn (Qb<|Zl arL) arL (pwB<|arD fun _ => Y) (hns := (nsM fun _ => Y)))<|rb Y))
 ·
  refine Ze<|Zg<|K3 0 1 4 Y<|Tr<|Rm Y<|Rl tZ_3 Q5 Y<|R2 QR Y<|Za<|K4 0 1 4 18 Y<|If h Y (fun h=>?_) fun h=>?_
  ·
   refine K1 4 Y<|Tr<|R_q (.agg<|List.map C26 (#v[0, 0, 0, 0, 0, 0, 0, 0, 0, 0, 0, 0, 0, 0, 0, 0, 0, 0, 0, 0, 0, 0, 0, 0, 0, 0, 0, 0, 0, 0, 0, 0, 0, 0, 0, 0, 0, 0, 0, 0, 0, 0, 0, 0, 0, 0, 0, 0, 0, 0, 0, 0, 0, 0, 0, 0, 0, 0, 0, 0, 0, 0, 0, 0] : Vector Int 64).toList) Y (Zd8 (ys := [_, _, _, _, _, _, _, _, _, _, _, _, _, _, _, _, _, _, _, _, _, _, _, _, _, _, _, _, _, _, _, _, _, _, _, _, _, _, _, _, _, _, _, _, _, _, _, _, _, _, _, _, _, _, _, _, _, _, _, _, _, _, _, _]) X8 Zd3 .nil Y)<|Rx Y (Zs (ov Y) (ov Y) (ZK Xn arL) Y Y Y (J3 (Zl arL) arL) (Zc<|arC fun _ => Y)<|XQ<|Eq.trans arL<|Eq.symm arL)<|Ra Y<|Za<|?_
   obtain rfl := rt h
   exact Zj (ZE Y (.two (.agg Y Y Y Y Xn (Qb<|Zl arL) arL (pwB<|arD fun _ => Y) (hns := (nsM fun _ => Y)))<|rb Y))
  ·
   refine Ze<|K3 0 1 4 Y<|Tr<|Rx Y (Ql (row := (List.map C26 (Vector.replicate 64 0).toList)) 1 Y Zd3 Y tZ_28)<|Za<|Tr<|Rm Y<|R2 ZbG Y<|bE h fun y h_y h=>Rq Y (Zn (JT h_y)<|.cons (ov Y) (.b Y) .nil)<|Rm Y<|bE h fun q h_q h=>Rq Y (ZbQ (ov Y) (ov Y) h_q)<|bE h fun y2 h_y2 h=>Rq Y (Zn (JT h_y2)<|.cons (ov Y) (.b Y) .nil)<|bE h fun x h_x h=>Rq Y (Jc (ov Y) (ov Y) X8 Y Y h_x)<|Rx Y (Zs (ov Y) (ov Y) (Zo Je) Y Y Y (arB h_x) (Zc Y)<|arS h_x)<|bE h fun x2 h_x2 h=>Rq Y (Jc (ov Y) (ov Y) X8 Y Y h_x2)<|Rx Y (Zs (ov Y) (ov Y) (Zo Je) Y Y Y (arB h_x2) (Zc Y)<|arS h_x2)<|Za<|J1 (fun j => (.inr j)) (fun f=>⟨[(4, .ptr 0 1 0 0), (6, .ptr 1 1 0 0)], [some ⟨28, [(List.map C26 (Vector.replicate 64 0).toList)]⟩, some ⟨28, [(List.map C26 f.toList)]⟩]⟩) h (fun h=>?_) fun f h=>?_
   ·
    refine K3 1 4 6 Y<|Tr<|Rm Y<|Rl tZ_3 Q5 Y<|Rm Y<|Za<|Zf<|?_
    obtain ⟨r1, hl1, ho1⟩ := QO h
    refine L2 (fun f2 i=>⟨[(4, .ptr 0 1 0 0), (6, .ptr 1 1 0 0), (28, .sl 3 (List.map R3 data)), (29, .int .i64 (data.length : Int)), (30, .int .i64 i)], [some ⟨28, [(List.map C26 (Vector.replicate 64 0).toList)]⟩, some ⟨28, [(List.map C26 f2.toList)]⟩]⟩) hl1 (ES [some 0, some 1]) fun n1 f2 i h=>?_
    unfold X5 at h
    refine Tr<|R2 ZH Y<|Za<|Zg<|If h Y (fun h=>?_) fun h=>?_
    ·
     refine Ze<|Zg<|Zf<|K5 4 6 28 29 30 Y<|Tr<|Rm Y<|bE h fun x3 h_x3 h=>Rq Y (ZX (ov Y) (ov Y) Q5 h_x3)<|Rq Y (Zd (ov Y) tS3 Y)<|Ra Y<|Ra Y<|Za<|Zg<|K7 4 6 7 8 28 29 30 Y<|Tr<|Rm Y<|R2 ZH Y<|Rm Y<|Rq Y (.guarded ((decide (x3 < 0)) == false) Y Y Y Y fun h => Zb<|ov Y)<|Rq Y (.guarded ((decide (x3 < 0)) == false) Y Y Y Y fun h => Zaw (ow Y h)<|ov Y)<|Rq Y (Zb9 (ov Y) fun hp=>ow Y<|gF hp)<|Za<|K8 4 6 7 8 28 29 30 40 Y<|If h Y (fun h=>?_) fun h=>?_
     ·
      refine K1 4 Y<|Tr<|R_q (.agg<|List.map C26 (#v[0, 0, 0, 0, 0, 0, 0, 0, 0, 0, 0, 0, 0, 0, 0, 0, 0, 0, 0, 0, 0, 0, 0, 0, 0, 0, 0, 0, 0, 0, 0, 0, 0, 0, 0, 0, 0, 0, 0, 0, 0, 0, 0, 0, 0, 0, 0, 0, 0, 0, 0, 0, 0, 0, 0, 0, 0, 0, 0, 0, 0, 0, 0, 0] : Vector Int 64).toList) Y (Zd8 (ys := [_, _, _, _, _, _, _, _, _, _, _, _, _, _, _, _, _, _, _, _, _, _, _, _, _, _, _, _, _, _, _, _, _, _, _, _, _, _, _, _, _, _, _, _, _, _, _, _, _, _, _, _, _, _, _, _, _, _, _, _, _, _, _, _]) X8 Zd3 .nil Y)<|Rx Y (Zs (ov Y) (ov Y) (ZK Xn arL) Y Y Y (J3 (Zl arL) arL) (Zc<|arC fun _ => Y)<|XQ<|Eq.trans arL<|Eq.symm arL)<|Ra Y<|Za<|?_
      replace h := lx h ▸ ho1
      obtain rfl := rt h
      exact Zj (ZE Y (.two (.agg Y Y Y Y Xn (Qb<|Zl arL) arL (pwB<|arD fun _ => Y) (hns := (nsM fun _ => Y)))<|rb Y))
     ·
      exact Ze<|K7 4 6 7 8 28 29 30 Y<|Zk<|Rm Y<|R2 ZN Y<|Rm Y<|bE h fun y3 h_y3 h=>Rq Y (Zn (JT h_y3)<|.cons (ov Y) (.b Y) .nil)<|bE h fun x4 h_x4 h=>Rq Y (Jc (ov Y) (ov Y) X8 Y Y h_x4)<|Rx Y (Zs (ov Y) (ov Y) (Zo Je) Y Y Y (arB h_x4) (Zc Y)<|arS h_x4)<|Za<|K5 4 6 28 29 30 Y<|Zk<|R2 ZN Y<|Rm Y<|Za<|⟨_, h, ES [some 0, some 1]⟩
    ·
     refine Zw<|?_
     replace h := lx h ▸ ho1
     exact ⟨_, h, ES [some 0, some 1]⟩
   ·
    replace h := elr h
    replace h := t1i h
    refine Tr<|bE h fun y4 h_y4 h=>Rx Y (Z4 [1] (ZfB h_y4) (.cons (ov Y) (.ptr _ _ _ Y) .nil) (.cons Y (ro1 (by exact Eq.trans (b := 64) arL tZ_28.symm)<|rld<|arD fun _ => Y) .nil) Y (.keep Y Y<|.lent 0 (.inl Y) Y (ro1 (by exact Eq.trans (b := 64) arL tZ_28.symm)<|rld<|arD fun _ => Y) .nil) Y Y<|Q6<|rld Y)<|Za<|K2 4 6 Y<|Tr<|Rq Y (QS (ov Y) Y Y Y Xn (Qb<|Zl arL) arL (hns := (nsM fun _ => Y)))<|Rx Y (Zs (ov Y) (ov Y) (ZK Xn arL) Y Y Y (J3 (Zl arL) arL) (Zc<|arC fun _ => Y)<|XQ<|Eq.trans arL<|Eq.symm arL)<|Ra Y<|Za<|?_
    obtain rfl := rt h
    exact Zj (ZE Y (.two (.agg Y Y Y Y Xn (Qb<|Zl arL) arL (pwB<|arD fun _ => Y) (hns := (nsM fun _ => Y)))<|rb Y))
theorem ZiN  {r : Bool} (h : Zcu  = some r) :
 CSpec Tryz.prog gl0 4 [] (.bool r) := by
 unfold Zcu at h
 replace h := Qo h
 refine So Tryz.func4 Y fun w0 A=>Tr<|Ra Y<|Za<|K0<|Tr<|bE h fun l h_l h=>Rx Y (ZiH [none] (r := 0) (f := R3) (z0 := 0) Y (ov Y) (ov Y) Q5 Y tZ3 Y Y h_l)<|Ra Y<|Za<|K1 1 Y<|Tr<|Rm Y<|bE h fun x h_x h=>Rq Y (Qk (ov Y) (ov Y) Q5 Y Y h_x)<|Rx Y (Xx (u' := 5) (ov Y) (ov Y) (Zo tS3) Y Y h_x Y (Zc Y) Y)<|Za<|K1 1 Y<|Tr<|Rm Y<|bE h fun y h_y h=>Rq Y (J5 (ZdL h_y) (.tuple<|by simp only [List.mem_cons, List.not_mem_nil, or_false, forall_eq_or_imp, forall_eq]; exact ⟨(Zfn (fun _ => .int)), .int⟩)<|.cons (ov Y) (Dat.view<|.b Y)<|.cons (ov Y) (View.ownM Y ((List.length_set ..).trans Y) D3) .nil)<|Rm Y<|Rq Y (Zi (ov Y) Y)<|Rq Y (Zi (ov Y) Y)<|Rx Y (Ql (row := (List.map C26 (Vector.replicate 64 0).toList)) 1 Y Zd3 Y tZ_28)<|Rx Y (Zs (ov Y) (ov Y) (ZK Xn arL) Y Y Y (J3 (Zl arL) arL) (Zc<|arC fun _ => Y)<|XQ<|Eq.trans arL<|Eq.symm arL)<|Ra Y<|Za<|K2 2 3 Y<|Tr<|Rm Y<|R2 Za1 Y<|Rm Y<|bE h fun x2 h_x2 h=>Rq Y (.guarded ((decide (y.2 = 0)) == true) Y Y Y Y fun h => Jc (ov Y) (ov Y) X8 Y Y<|gdT h_x2 h)<|Rq Y (.guarded ((decide (y.2 = 0)) == true) Y Y Y Y fun h => ZV (ow Y h) Y Y Y Je<|Z8<|QV (o := 0) (o' := ((Int.toNat 0) * 1)) (Zl arL)<|QW<|gdT h_x2 h)<|Rq Y (.guarded ((decide (y.2 = 0)) == true) Y Y Y Y fun h => Za1 (ow Y h)<|ov Y)<|Rq Y (Zb2 (ov Y) fun hp=>ow Y<|gT hp)<|Rm Y<|bE h fun x3 h_x3 h=>Rq Y (.guarded (((decide (y.2 = 0)) && (decide (x2 = 2631))) == true) Y Y Y Y fun h => Jc (ov Y) (ov Y) X8 Y Y<|gdT h_x3 h)<|Rq Y (.guarded (((decide (y.2 = 0)) && (decide (x2 = 2631))) == true) Y Y Y Y fun h => ZV (ow Y h) Y Y Y Je<|Z8<|QV (o := 0) (o' := ((Int.toNat 1) * 1)) (Zl arL)<|QW<|gdT h_x3 h)<|Rq Y (.guarded (((decide (y.2 = 0)) && (decide (x2 = 2631))) == true) Y Y Y Y fun h => Za1 (ow Y h)<|ov Y)<|Rq Y (Zb2 (ov Y) fun hp=>ow Y<|gT hp)<|Rm Y<|bE h fun x4 h_x4 h=>Rq Y (.guarded ((((decide (y.2 = 0)) && (decide (x2 = 2631))) && (decide (x3 = 2))) == true) Y Y Y Y fun h => Jc (ov Y) (ov Y) X8 Y Y<|gdT h_x4 h)<|Rq Y (.guarded ((((decide (y.2 = 0)) && (decide (x2 = 2631))) && (decide (x3 = 2))) == true) Y Y Y Y fun h => ZV (ow Y h) Y Y Y Je<|Z8<|QV (o := 0) (o' := ((Int.toNat 2) * 1)) (Zl arL)<|QW<|gdT h_x4 h)<|Rq Y (.guarded ((((decide (y.2 = 0)) && (decide (x2 = 2631))) && (decide (x3 = 2))) == true) Y Y Y Y fun h => Za1 (ow Y h)<|ov Y)<|Rq Y (Zb2 (ov Y) fun hp=>ow Y<|gT hp)<|Rm Y<|bE h fun x5 h_x5 h=>Rq Y (.guarded (((((decide (y.2 = 0)) && (decide (x2 = 2631))) && (decide (x3 = 2))) && (decide (x4 = 1))) == true) Y Y Y Y fun h => Jc (ov Y) (ov Y) X8 Y Y<|gdT h_x5 h)<|Rq Y (.guarded (((((decide (y.2 = 0)) && (decide (x2 = 2631))) && (decide (x3 = 2))) && (decide (x4 = 1))) == true) Y Y Y Y fun h => ZV (ow Y h) Y Y Y Je<|Z8<|QV (o := 0) (o' := ((Int.toNat 3) * 1)) (Zl arL)<|QW<|gdT h_x5 h)<|Rq Y (.guarded (((((decide (y.2 = 0)) && (decide (x2 = 2631))) && (decide (x3 = 2))) && (decide (x4 = 1))) == true) Y Y Y Y fun h => Za1 (ow Y h)<|ov Y)<|Rq Y (Zb2 (ov Y) fun hp=>ow Y<|gT hp)<|Ra Y<|Za<|?_
 obtain rfl := rt h
 exact Zj (ZE Y (.one<|rb Y))
theorem Za4 {n : Int} {low : Int} {high : Int} {r : Bool} (h : QT n low high = some r) :
 CSpec Tryz.prog gl0 65 [.int .i64 n, .int .i64 low, .int .i64 high] (.bool r) := by
 unfold QT at h
 replace h := Qo h
 refine So Tryz.func65 Y fun w0 A=>Tr<|Ra Y<|Za<|Tr<|Rm Y<|Rm Y<|R2 ZH Y<|Rm Y<|Rq Y (.guarded ((decide (n < low)) == false) Y Y Y Y fun h => Zb<|ov Y)<|Rq Y (.guarded ((decide (n < low)) == false) Y Y Y Y fun h => Zb<|ov Y)<|Rq Y (.guarded ((decide (n < low)) == false) Y Y Y Y fun h => Zaw (ow Y h)<|ow Y h)<|Rq Y (Zb9 (ov Y) fun hp=>ow Y<|gF hp)<|Ra Y<|Za<|?_
 obtain rfl := rt h
 exact Zj (ZE Y (.one<|rb Y))
theorem ZeO {m : api_Memory} {r : Int} (h : Jm m = some r) :
 CSpec Tryz.prog gl0 38 [.agg [.int .i64 m.Slots, .int .i64 m.Limit, .sl 56 (List.map R56 m.Sectors), .sl 3 (List.map R3 m.Wear), .sl 4 (List.map R4 m.Bad)]] (.int .i64 r) := by
 unfold Jm at h
 replace h := Qo h
 refine So Tryz.func38 Y fun w0 A=>Tr<|Rq Y (ZaC (cva<|ov Y) Y tZ_55 Y)<|Ra Y<|Za<|K1 1 Y<|Tr<|Rq Y (ZS (ov Y) Jw)<|Rq Y (Zd (ov Y) ZdB Y)<|Rl tZ_56 Zcd Y<|Ra Y<|Za<|Zg<|K2 1 3 Y<|Tr<|Rq Y (ZS (ov Y) Zet)<|Rq Y (Zd (ov Y) tS3 Y)<|bE h fun y h_y h=>Rq Y (Zn (Za4 h_y)<|.cons (ov Y) (.b Y)<|.cons (ov Y) (.b Y)<|.cons (ov Y) (.b Y) .nil)<|Rm Y<|Rq Y (.guarded (y == false) Y Y Y Y fun h => ZS (ov Y) Zf7)<|Rq Y (.guarded (y == false) Y Y Y Y fun h => Zd (ow Y h) tS3 Y)<|bE h fun y2 h_y2 h=>Rq Y (.guarded (y == false) Y Y Y Y fun h => Zn (Za4<|gdT h_y2 h)<|.cons (ow Y h) (.b Y)<|.cons (ov Y) (.b Y)<|.cons (ov Y) (.b Y) .nil)<|Rq Y (Zb9 (ov Y) fun hp=>ow Y<|gF hp)<|Rm Y<|Rq Y (.guarded ((y || y2) == false) Y Y Y Y fun h => Zb<|ov Y)<|bE h fun y3 h_y3 h=>Rq Y (.guarded ((y || y2) == false) Y Y Y Y fun h => Zn (Za4<|gdT h_y3 h)<|.cons (ow Y h) (.b Y)<|.cons (ov Y) (.b Y)<|.cons (ov Y) (.b Y) .nil)<|Rq Y (Zb9 (ov Y) fun hp=>ow Y<|gF hp)<|Za<|K3 1 3 20 Y<|If h Y (fun h=>?_) fun h=>?_
 ·
  refine K0<|Tr<|Ra Y<|Za<|?_
  obtain rfl := rt h
  exact Zj (ZE Y (.one<|rb Y))
 ·
  refine Ze<|Zg<|K2 1 3 Y<|Tr<|Rq Y (ZS (ov Y) Zc9)<|Rq Y (Zd (ov Y) ZhN Y)<|Rl tZ_3 Q5 Y<|Rm Y<|R2 QR Y<|Rm Y<|Rq Y (.guarded ((!decide ((m.Wear.length : Int) = (m.Sectors.length : Int))) == false) Y Y Y Y fun h => ZS (ov Y) ZdK)<|Rq Y (.guarded ((!decide ((m.Wear.length : Int) = (m.Sectors.length : Int))) == false) Y Y Y Y fun h => Zd (ow Y h) ZhM Y)<|Rq Y (.guarded ((!decide ((m.Wear.length : Int) = (m.Sectors.length : Int))) == false) Y Y Y Y fun h => ZgU (QX (ow Y h) tZ_4) Zix<|Zdu _ _)<|Rq Y (.guarded ((!decide ((m.Wear.length : Int) = (m.Sectors.length : Int))) == false) Y Y Y Y fun h => Zb<|ov Y)<|Rq Y (.guarded ((!decide ((m.Wear.length : Int) = (m.Sectors.length : Int))) == false) Y Y Y Y fun h => QR (ow Y h)<|ow Y h)<|Rq Y (Zb9 (ov Y) fun hp=>ow Y<|gF hp)<|Za<|K2 1 32 Y<|If h Y (fun h=>?_) fun h=>?_
  ·
   refine K0<|Tr<|Ra Y<|Za<|?_
   obtain rfl := rt h
   exact Zj (ZE Y (.one<|rb Y))
  ·
   refine Ze<|J0 (fun j => (.inr j)) ⟨[], []⟩ h (fun h=>?_) fun h=>?_
   ·
    refine K1 1 Y<|Tr<|Rq Y (ZS (ov Y) Jw)<|Rq Y (Zd (ov Y) ZdB Y)<|Rl tZ_56 Zcd Y<|Rm Y<|Za<|Zf<|?_
    obtain ⟨r1, hl1, ho1⟩ := QO h
    refine L1 (fun i=>⟨[(1, .rp [.int .i64 m.Slots, .int .i64 m.Limit, .sl 56 (List.map R56 m.Sectors), .sl 3 (List.map R3 m.Wear), .sl 4 (List.map R4 m.Bad)] 0), (34, .sl 56 (List.map R56 m.Sectors)), (35, .int .i64 (m.Sectors.length : Int)), (36, .int .i64 i)], []⟩) hl1 (ES []) fun n1 i h=>?_
    unfold Jf at h
    refine Tr<|R2 ZH Y<|Za<|Zg<|If h Y (fun h=>?_) fun h=>?_
    ·
     refine Ze<|Zg<|Zf<|K4 1 34 35 36 Y<|Tr<|Rm Y<|bE h fun x h_x h=>Rq Y (ZX (ov Y) (ov Y) Zcd h_x)<|Rq Y (Zd (ov Y) Zfl Y)<|Ra Y<|Ra Y<|Za<|Zg<|K6 1 4 5 34 35 36 Y<|Tr<|Rm Y<|Rl tZ_5 XR Y<|Rq Y (ZS (ov Y) Zet)<|Rq Y (Zd (ov Y) tS3 Y)<|R2 Zft Y<|R2 ZN Y<|R2 QR Y<|Za<|K6 1 4 34 35 36 47 Y<|If h Y (fun h=>?_) fun h=>?_
     ·
      refine K0<|Tr<|Ra Y<|Za<|?_
      replace h := lx h ▸ ho1
      obtain rfl := rt h
      exact Zj (ZE Y (.one<|rb Y))
     ·
      refine Ze<|Zg<|K5 1 4 34 35 36 Y<|Qn (cw := md0) (by kernel_rfl)<|Dq 0 Y (ZS (ov Y) Zc9)<|Dq 1 Y (Zd (ov Y) ZhN Y)<|D1 2 Zb Y<|bE h fun x2 h_x2 h=>Dq 3 Y (ZX (ov Y) (ov Y) Q5 h_x2)<|Dq 4 Y (Zd (ov Y) tS3 Y)<|Dq 5 Y (ZS (ov Y) Zf7)<|Dq 6 Y (Zd (ov Y) tS3 Y)<|bE h fun y4 h_y4 h=>Dq 7 Y (Zn (Za4 h_y4)<|.cons (ov Y) (.b Y)<|.cons (ov Y) (.b Y)<|.cons (ov Y) (.b Y) .nil)<|Dd<|K5 1 34 35 36 55 Y<|If h Y (fun h=>?_) fun h=>?_
      ·
       refine K0<|Tr<|Ra Y<|Za<|?_
       replace h := lx h ▸ ho1
       obtain rfl := rt h
       exact Zj (ZE Y (.one<|rb Y))
      ·
       exact Ze<|K4 1 34 35 36 Y<|Zk<|R2 ZN Y<|Rm Y<|Za<|⟨_, h, ES []⟩
    ·
     refine Zw<|?_
     replace h := lx h ▸ ho1
     exact ⟨(), h, ES []⟩
   ·
    replace h := elr h
    replace h := t0i h
    refine Tr<|Ra Y<|Za<|?_
    obtain rfl := rt h
    exact Zj (ZE Y (.one<|rb Y))
theorem ZhP {l : List api_Memory} {r : Int} (h : Zbi l = some r) :
 CSpec Tryz.prog gl0 17 [.sl 55 (List.map R55 l)] (.int .i64 r) := by
 unfold Zbi at h
 replace h := Qo h
 refine So Tryz.func17 Y fun w0 A=>Tr<|Ra Y<|Za<|Zg<|K1 0 Y<|Tr<|Rm Y<|Rl tZ_55 ZaB Y<|R2 Za1 Y<|Rm Y<|Rq Y (.guarded ((decide ((l.length : Int) = 0)) == false) Y Y Y Y fun h => Zb<|ov Y)<|Rq Y (.guarded ((decide ((l.length : Int) = 0)) == false) Y Y Y Y fun h => ZgU (QX (ow Y h) tZ_55) ZaB<|Zdu _ _)<|Rq Y (.guarded ((decide ((l.length : Int) = 0)) == false) Y Y Y Y fun h => Zaw (ow Y h)<|ov Y)<|Rq Y (Zb9 (ov Y) fun hp=>ow Y<|gF hp)<|Za<|K2 0 13 Y<|If h Y (fun h=>?_) fun h=>?_
 ·
  refine K0<|Tr<|Ra Y<|Za<|?_
  obtain rfl := rt h
  exact Zj (ZE Y (.one<|rb Y))
 ·
  refine Ze<|J0 (fun j => (.inr j)) ⟨[], []⟩ h (fun h=>?_) fun h=>?_
  ·
   refine K1 0 Y<|Tr<|Rm Y<|Rl tZ_55 ZaB Y<|Rm Y<|Za<|Zf<|?_
   obtain ⟨r1, hl1, ho1⟩ := QO h
   refine L1 (fun i=>⟨[(14, .sl 55 (List.map R55 l)), (15, .int .i64 (l.length : Int)), (16, .int .i64 i)], []⟩) hl1 (ES []) fun n1 i h=>?_
   unfold ZbW at h
   refine Tr<|R2 ZH Y<|Za<|Zg<|If h Y (fun h=>?_) fun h=>?_
   ·
    refine Ze<|Zg<|Zf<|K3 14 15 16 Y<|Tr<|bE h fun x h_x h=>Rq Y (ZX (ov Y) (ov Y) ZaB h_x)<|Rq Y (ZP (ov Y) Za2 Y Y)<|Rx Y (Ql (row := [_, _, _, _, _]) 0 Y ZhO Y tZ_55)<|Rx Y (Zs (ov Y) (ov Y) (ZK Za2 Y) Y Y Y (Nat.le_of_ble_eq_true Y) (Zc Y) Y)<|Za<|K4 4 14 15 16 Y<|Tr<|Rq Y (QS (ov Y) Y Y Y Za2 Y Y)<|bE h fun y h_y h=>Rq Y (Zn (ZeO h_y)<|.cons (ov Y) (.aggB Y) .nil)<|Ra Y<|Za<|K4 5 14 15 16 Y<|Tr<|Rm Y<|R2 QR Y<|Za<|K5 5 14 15 16 23 Y<|If h Y (fun h=>?_) fun h=>?_
    ·
     refine K1 5 Y<|Tr<|Rm Y<|Ra Y<|Za<|?_
     replace h := lx h ▸ ho1
     obtain rfl := rt h
     exact Zj (ZE Y (.one<|rb Y))
    ·
     exact Ze<|K3 14 15 16 Y<|Zk<|R2 ZN Y<|Rm Y<|Za<|⟨_, h, ES []⟩
   ·
    refine Zw<|?_
    replace h := lx h ▸ ho1
    exact ⟨(), h, ES []⟩
  ·
   replace h := elr h
   replace h := t0i h
   refine Tr<|Ra Y<|Za<|?_
   obtain rfl := rt h
   exact Zj (ZE Y (.one<|rb Y))
theorem ZhJ {l : List api_Memory} {frames : Int} {r : Bool} (h : ZcM l frames = some r) :
 CSpec Tryz.prog gl0 5 [.sl 55 (List.map R55 l), .int .i64 frames] (.bool r) := by
 unfold ZcM at h
 replace h := Qo h
 refine So Tryz.func5 Y fun w0 A=>Tr<|Ra Y<|Za<|Zg<|K2 0 1 Y<|Tr<|Rm Y<|bE h fun y h_y h=>Rq Y (Zn (ZhP h_y)<|.cons (ov Y) (.b Y) .nil)<|R2 QR Y<|Za<|K3 0 1 13 Y<|If h Y (fun h=>?_) fun h=>?_
 ·
  refine K0<|Tr<|Ra Y<|Za<|?_
  obtain rfl := rt h
  exact Zj (ZE Y (.one<|rb Y))
 ·
  refine Ze<|J0 (fun j => (.inr j)) ⟨[], []⟩ h (fun h=>?_) fun h=>?_
  ·
   refine K2 0 1 Y<|Tr<|Rm Y<|Rl tZ_55 ZaB Y<|Rm Y<|Za<|Zf<|?_
   obtain ⟨r1, hl1, ho1⟩ := QO h
   refine L1 (fun i=>⟨[(1, .int .i64 frames), (14, .sl 55 (List.map R55 l)), (15, .int .i64 (l.length : Int)), (16, .int .i64 i)], []⟩) hl1 (ES []) fun n1 i h=>?_
   unfold ZaP at h
   refine Tr<|R2 ZH Y<|Za<|Zg<|If h Y (fun h=>?_) fun h=>?_
   ·
    refine Ze<|J0 (fun j => (.inr j)) ⟨[(1, .int .i64 frames), (14, .sl 55 (List.map R55 l)), (15, .int .i64 (l.length : Int)), (16, .int .i64 i)], []⟩ h (fun h=>?_) fun h=>?_
    ·
     refine Zf<|K4 1 14 15 16 Y<|Tr<|bE h fun x h_x h=>Rq Y (ZX (ov Y) (ov Y) ZaB h_x)<|Rq Y (ZP (ov Y) Za2 Y Y)<|Rx Y (Ql (row := [_, _, _, _, _]) 0 Y ZhO Y tZ_55)<|Rx Y (Zs (ov Y) (ov Y) (ZK Za2 Y) Y Y Y (Nat.le_of_ble_eq_true Y) (Zc Y) Y)<|Za<|Zg<|K5 1 6 14 15 16 Y<|Tr<|Rq Y (Zr (ov Y) Y Y Zf7)<|Rq Y (ZV (ov Y) Y Y Y tS3 Y)<|Rm Y<|R2 ZH Y<|Za<|K6 1 6 14 15 16 23 Y<|If h Y (fun h=>?_) fun h=>?_
     ·
      refine K0<|Tr<|Ra Y<|Za<|?_
      replace h := lx h ▸ ho1
      obtain rfl := rt h
      exact Zj (ZE Y (.one<|rb Y))
     ·
      refine Ze<|K5 1 6 14 15 16 Y<|Tr<|Rq Y (Zr (ov Y) Y Y Jw)<|Rq Y (ZV (ov Y) Y Y Y ZdB Y)<|Rl tZ_56 Zcd Y<|Rm Y<|Za<|Zf<|?_
      obtain ⟨r2, hl2, ho2⟩ := QO h
      refine L1 (fun i2=>⟨[(1, .int .i64 frames), (6, .ptr 0 1 0 0), (14, .sl 55 (List.map R55 l)), (15, .int .i64 (l.length : Int)), (16, .int .i64 i), (25, .sl 56 (List.map R56 x.Sectors)), (26, .int .i64 (x.Sectors.length : Int)), (27, .int .i64 i2)], [some ⟨55, [[.int .i64 x.Slots, .int .i64 x.Limit, .sl 56 (List.map R56 x.Sectors), .sl 3 (List.map R3 x.Wear), .sl 4 (List.map R4 x.Bad)]]⟩]⟩) hl2 (ES [some 0]) fun n2 i2 h=>?_
      unfold ZaK at h
      refine Tr<|R2 ZH Y<|Za<|Zg<|If h Y (fun h=>?_) fun h=>?_
      ·
       refine Ze<|J0 (fun j => (.inr j)) ⟨[(1, .int .i64 frames), (6, .ptr 0 1 0 0), (14, .sl 55 (List.map R55 l)), (15, .int .i64 (l.length : Int)), (16, .int .i64 i), (25, .sl 56 (List.map R56 x.Sectors)), (26, .int .i64 (x.Sectors.length : Int)), (27, .int .i64 i2)], [some ⟨55, [[.int .i64 x.Slots, .int .i64 x.Limit, .sl 56 (List.map R56 x.Sectors), .sl 3 (List.map R3 x.Wear), .sl 4 (List.map R4 x.Bad)]]⟩]⟩ h (fun h=>?_) fun h=>?_
       ·
        refine Zf<|K8 1 6 14 15 16 25 26 27 Y<|Tr<|Rm Y<|bE h fun x2 h_x2 h=>Rq Y (ZX (ov Y) (ov Y) Zcd h_x2)<|Rq Y (Zd (ov Y) Zfl Y)<|Ra Y<|Ra Y<|Za<|Zg<|K10 1 6 7 8 14 15 16 25 26 27 Y<|Tr<|Rq Y (Zr (ov Y) Y Y Zc9)<|Rq Y (ZV (ov Y) Y Y Y ZhN Y)<|Rm Y<|bE h fun x3 h_x3 h=>Rq Y (ZX (ov Y) (ov Y) Q5 h_x3)<|Rq Y (Zd (ov Y) tS3 Y)<|R2 QR Y<|Rm Y<|Rq Y (.guarded ((!decide (x3 = 0)) == false) Y Y Y Y fun h => Zr (ov Y) Y Y ZdK)<|Rq Y (.guarded ((!decide (x3 = 0)) == false) Y Y Y Y fun h => ZV (ow Y h) Y Y Y ZhM Y)<|Rq Y (.guarded ((!decide (x3 = 0)) == false) Y Y Y Y fun h => Zb<|ov Y)<|bE h fun x4 h_x4 h=>Rq Y (.guarded ((!decide (x3 = 0)) == false) Y Y Y Y fun h => ZX (ow Y h) (ow Y h) Zix<|gdT h_x4 h)<|Rq Y (.guarded ((!decide (x3 = 0)) == false) Y Y Y Y fun h => Zd (ow Y h) tS4 Y)<|Rq Y (Zb9 (ov Y) fun hp=>ow Y<|gF hp)<|Za<|K10 1 6 8 14 15 16 25 26 27 44 Y<|If h Y (fun h=>?_) fun h=>?_
        ·
         refine K0<|Tr<|Ra Y<|Za<|?_
         replace h := lx h ▸ ho2
         replace h := lx h ▸ ho1
         obtain rfl := rt h
         exact Zj (ZE Y (.one<|rb Y))
        ·
         refine Ze<|K9 1 6 8 14 15 16 25 26 27 Y<|Tr<|Rm Y<|Rl tZ_5 XR Y<|Rm Y<|Za<|Zf<|?_
         obtain ⟨r3, hl3, ho3⟩ := QO h
         refine L1 (fun i3=>⟨[(1, .int .i64 frames), (6, .ptr 0 1 0 0), (14, .sl 55 (List.map R55 l)), (15, .int .i64 (l.length : Int)), (16, .int .i64 i), (25, .sl 56 (List.map R56 x.Sectors)), (26, .int .i64 (x.Sectors.length : Int)), (27, .int .i64 i2), (45, .sl 5 (List.map R5 x2)), (46, .int .i64 (x2.length : Int)), (47, .int .i64 i3)], [some ⟨55, [[.int .i64 x.Slots, .int .i64 x.Limit, .sl 56 (List.map R56 x.Sectors), .sl 3 (List.map R3 x.Wear), .sl 4 (List.map R4 x.Bad)]]⟩]⟩) hl3 (ES [some 0]) fun n3 i3 h=>?_
         unfold ZaX at h
         refine Tr<|R2 ZH Y<|Za<|Zg<|If h Y (fun h=>?_) fun h=>?_
         ·
          refine Ze<|Zg<|Zf<|K11 1 6 14 15 16 25 26 27 45 46 47 Y<|Tr<|bE h fun x5 h_x5 h=>Rq Y (ZX (ov Y) (ov Y) XR h_x5)<|Rq Y (Zd (ov Y) tS5 Y)<|Ra Y<|Za<|K12 1 6 10 14 15 16 25 26 27 45 46 47 Y<|Tr<|Rm Y<|R2 QR Y<|Za<|K12 1 6 14 15 16 25 26 27 45 46 47 52 Y<|If h Y (fun h=>?_) fun h=>?_
          ·
           refine K0<|Tr<|Ra Y<|Za<|?_
           replace h := lx h ▸ ho3
           replace h := lx h ▸ ho2
           replace h := lx h ▸ ho1
           obtain rfl := rt h
           exact Zj (ZE Y (.one<|rb Y))
          ·
           exact Ze<|K11 1 6 14 15 16 25 26 27 45 46 47 Y<|Zk<|R2 ZN Y<|Rm Y<|Za<|⟨_, h, ES [some 0]⟩
         ·
          refine Zw<|?_
          replace h := lx h ▸ ho3
          exact ⟨(), h, ES [some 0]⟩
       ·
        replace h := elr h
        replace h := t0i h
        exact Zk<|R2 ZN Y<|Rm Y<|Za<|⟨_, h, ES [some 0]⟩
      ·
       refine Zw<|?_
       replace h := lx h ▸ ho2
       exact ⟨(), h, ES []⟩
    ·
     replace h := elr h
     replace h := t0i h
     exact Zk<|R2 ZN Y<|Rm Y<|Za<|⟨_, h, ES []⟩
   ·
    refine Zw<|?_
    replace h := lx h ▸ ho1
    exact ⟨(), h, ES []⟩
  ·
   replace h := elr h
   replace h := t0i h
   refine Tr<|Ra Y<|Za<|?_
   obtain rfl := rt h
   exact Zj (ZE Y (.one<|rb Y))
theorem Zgf {n : Int} {r : Bool} (h : ZbY n = some r) :
 CSpec Tryz.prog gl0 39 [.int .i64 n] (.bool r) := by
 unfold ZbY at h
 replace h := Qo h
 refine So Tryz.func39 Y fun w0 A=>Tr<|Ra Y<|Za<|K1 0 Y<|Tr<|Ra Y<|Za<|I1 (fun ones=>⟨[(3, .int .i64 ones)], []⟩) h (fun h=>?_) fun ones h=>?_
 ·
  refine Zf<|?_
  obtain ⟨r1, hl1, ho1⟩ := QO h
  refine L2 (fun n2 ones2=>⟨[(0, .int .i64 n2), (3, .int .i64 ones2)], []⟩) hl1 (ES []) fun n1 n2 ones2 h=>?_
  unfold Zc4 at h
  refine Zg<|Tr<|Rm Y<|R2 Zaw Y<|Za<|K3 0 3 5 Y<|If h Y (fun h=>?_) fun h=>?_
  ·
   exact Ze<|Zg<|Zf<|K2 0 3 Y<|Zk<|Rm Y<|Rm Y<|bE h fun q h_q h=>Rq Y (Zab (ov Y) (ov Y) h_q)<|R2 ZN Y<|Ra Y<|Za<|K2 0 3 Y<|Zk<|Rm Y<|bE h fun q2 h_q2 h=>Rq Y (Zf1 (ov Y) (ov Y) h_q2)<|Ra Y<|Za<|⟨_, h, ES []⟩
  ·
   refine Zw<|?_
   replace h := lx h ▸ ho1
   exact ⟨_, h, ES []⟩
 ·
  refine Tr<|Rm Y<|bE h fun q3 h_q3 h=>Rq Y (Zab (ov Y) (ov Y) h_q3)<|R2 Za1 Y<|Ra Y<|Za<|?_
  obtain rfl := rt h
  exact Zj (ZE Y (.one<|rb Y))
theorem ZeS {w : Int} {r : Bool} (h : JB w = some r) :
 CSpec Tryz.prog gl0 18 [.int .u16 w] (.bool r) := by
 unfold JB at h
 replace h := Qo h
 refine So Tryz.func18 Y fun w0 A=>Tr<|Ra Y<|Za<|Tr<|Rm Y<|R2 Zho Y<|Rm Y<|Rq Y (.guarded ((decide (w ≤ 4095)) == true) Y Y Y Y fun h => Zb<|ov Y)<|Rq Y (.guarded ((decide (w ≤ 4095)) == true) Y Y Y Y fun h => QI (ow Y h) Zdg tI3 Y)<|bE h fun y h_y h=>Rq Y (.guarded ((decide (w ≤ 4095)) == true) Y Y Y Y fun h => Zn (Zgf<|gdT h_y h)<|.cons (ow Y h) (.b Y) .nil)<|Rq Y (Zb2 (ov Y) fun hp=>ow Y<|gT hp)<|Ra Y<|Za<|?_
 obtain rfl := rt h
 exact Zj (ZE Y (.one<|rb Y))
theorem Zdk {f : Vector Int 64} {r : Int} (h : Jb f = some r) :
 CSpec Tryz.prog gl0 19 [.agg (List.map C26 f.toList)] (.int .i64 r) := by
 unfold Jb at h
 replace h := Qo h
 refine So Tryz.func19 Y fun w0 A=>Tr<|Rq Y (ZaC (cva<|ov Y) arL tZ_28<|arD fun _ => Y)<|Ra Y<|Za<|K2 1 2 Y<|Tr<|bE h fun x h_x h=>Rq Y (QB (ov Y) (ov Y) X8 h_x)<|Rq Y (Zd (ov Y) Je<|Z8<|QV (o := 0) (o' := ((Int.toNat 1) * 1)) (Zl arL)<|QW h_x)<|Rq Y (QI (ov Y) Zdg tI3 Y)<|bE h fun q h_q h=>Rq Y (Zab (ov Y) (ov Y) h_q)<|bE h fun x2 h_x2 h=>Rq Y (QB (ov Y) (ov Y) X8 h_x2)<|Rq Y (Zd (ov Y) Je<|Z8<|QV (o := 0) (o' := ((Int.toNat 2) * 1)) (Zl arL)<|QW h_x2)<|Rq Y (QI (ov Y) Zdg tI3 Y)<|bE h fun q2 h_q2 h=>Rq Y (Zab (ov Y) (ov Y) h_q2)<|R2 Zft Y<|R2 ZN Y<|Ra Y<|Za<|?_
 obtain rfl := rt h
 exact Zj (ZE Y (.one<|rb Y))
theorem ZcH {f : Vector Int 64} {r : Int × Bool} (h : QE f = some r) :
 CSpec Tryz.prog gl0 6 [.agg (List.map C26 f.toList)] (.tuple [.int .i64 r.1, .bool r.2]) := by
 unfold QE at h
 replace h := Qo h
 refine So Tryz.func6 Y fun w0 A=>Tr<|Rq Y (ZaC (cva<|ov Y) arL tZ_28<|arD fun _ => Y)<|Ra Y<|Ra Y<|Za<|Zg<|K1 1 Y<|Tr<|bE h fun x h_x h=>Rq Y (QB (ov Y) (ov Y) X8 h_x)<|Rq Y (Zd (ov Y) Je<|Z8<|QV (o := 0) (o' := ((Int.toNat 1) * 1)) (Zl arL)<|QW h_x)<|bE h fun y h_y h=>Rq Y (Zn (ZeS h_y)<|.cons (ov Y) (.b Y) .nil)<|R1 Xv Y<|Rm Y<|bE h fun x2 h_x2 h=>Rq Y (.guarded ((!y) == false) Y Y Y Y fun h => QB (ov Y) (ov Y) X8<|gdT h_x2 h)<|Rq Y (.guarded ((!y) == false) Y Y Y Y fun h => Zd (ow Y h) Je<|Z8<|QV (o := 0) (o' := ((Int.toNat 2) * 1)) (Zl arL)<|QW<|gdT h_x2 h)<|bE h fun y2 h_y2 h=>Rq Y (.guarded ((!y) == false) Y Y Y Y fun h => Zn (ZeS<|gdT h_y2 h)<|.cons (ow Y h) (.b Y) .nil)<|Rq Y (.guarded ((!y) == false) Y Y Y Y fun h => Xv<|ow Y h)<|Rq Y (Zb9 (ov Y) fun hp=>ow Y<|gF hp)<|Za<|K2 1 13 Y<|If h Y (fun h=>?_) fun h=>?_
 ·
  refine K0<|Tr<|Ra Y<|Ra Y<|Za<|?_
  obtain rfl := rt h
  exact Zj (ZE Y (.two (rb Y)<|rb Y))
 ·
  refine Ze<|K1 1 Y<|Tr<|Rq Y (ZP (ov Y) Xn (Qb<|Zl arL) arL)<|bE h fun y3 h_y3 h=>Rq Y (Zn (Zdk h_y3)<|.cons (ov Y) (.aggB<|arD fun _ => Y) .nil)<|Ra Y<|Ra Y<|Za<|?_
  obtain rfl := rt h
  exact Zj (ZE Y (.two (rb Y)<|rb Y))
theorem Zg5 {number : Int} {r : Int} (h : Zb5 number = some r) :
 CSpec Tryz.prog gl0 40 [.int .i64 number] (.int .i64 r) := by
 unfold Zb5 at h
 replace h := Qo h
 refine So Tryz.func40 Y fun w0 A=>Tr<|Ra Y<|Za<|Tr<|R_q (.agg<|List.map C3 (#v[583, 1464, 2631, 3512] : Vector Int 4).toList) Y (Zd8 (ys := [_, _, _, _]) Zn1 Zpn (.cons (cvs (ov Y)<|ZT Y)<|.cons (cvs (ov Y)<|ZT Y)<|.cons (cvs (ov Y)<|ZT Y)<|.cons (cvs (ov Y)<|ZT Y) .nil) Y)<|Rm Y<|bE h fun q h_q h=>Rq Y (Zab (ov Y) (ov Y) h_q)<|bE h fun x h_x h=>Rq Y (Zf3 (ov Y) (ov Y) Zn1 tS3 h_x)<|Ra Y<|Za<|?_
 obtain rfl := rt h
 exact Zj (ZE Y (.one<|rb Y))
theorem Zjk {f : Vector Int 64} {r : Int} (h : Zep f = some r) :
 CSpec Tryz.prog gl0 41 [.agg (List.map C26 f.toList)] (.int .i64 r) := by
 unfold Zep at h
 replace h := Qo h
 refine So Tryz.func41 Y fun w0 A=>Tr<|Rq Y (ZaC (cva<|ov Y) arL tZ_28<|arD fun _ => Y)<|Ra Y<|Za<|K1 1 Y<|Tr<|Ra Y<|Za<|I1 (fun x=>⟨[(3, .int .i64 x)], []⟩) h (fun h=>?_) fun x h=>?_
 ·
  refine Tr<|Ra Y<|Za<|Zf<|?_
  obtain ⟨r1, hl1, ho1⟩ := QO h
  refine L2 (fun x2 i=>⟨[(1, .rp (List.map C26 f.toList) 0), (3, .int .i64 x2), (4, .int .i64 i)], []⟩) hl1 (ES []) fun n1 x2 i h=>?_
  unfold Zb1 at h
  refine Zg<|Tr<|Rm Y<|R2 Zho Y<|Za<|K4 1 3 4 6 Y<|If h Y (fun h=>?_) fun h=>?_
  ·
   exact Ze<|Zg<|Zf<|K3 1 3 4 Y<|Zk<|Rm Y<|Rm Y<|bE h fun x3 h_x3 h=>Rq Y (QB (ov Y) (ov Y) X8 h_x3)<|Rq Y (Zd (ov Y) Je<|Z8<|QV (o := 0) (o' := (i.toNat * 1)) (Zl arL)<|QW h_x3)<|Rq Y (QI (ov Y) Zdg tI3 Y)<|bE h fun q h_q h=>Rq Y (Zab (ov Y) (ov Y) h_q)<|R2 Zii Y<|Ra Y<|Za<|K3 1 3 4 Y<|Zk<|Rm Y<|R2 ZN Y<|Ra Y<|Za<|⟨_, h, ES []⟩
  ·
   refine Zw<|?_
   replace h := lx h ▸ ho1
   exact ⟨_, h, ES []⟩
 ·
  refine Tr<|Rm Y<|Ra Y<|Za<|?_
  obtain rfl := rt h
  exact Zj (ZE Y (.one<|rb Y))
theorem ZhC {f : Vector Int 64} {r : Int} (h : ZcI f = some r) :
 CSpec Tryz.prog gl0 42 [.agg (List.map C26 f.toList)] (.int .i64 r) := by
 unfold ZcI at h
 replace h := Qo h
 refine So Tryz.func42 Y fun w0 A=>Tr<|Rq Y (ZaC (cva<|ov Y) arL tZ_28<|arD fun _ => Y)<|Ra Y<|Za<|K1 1 Y<|Tr<|Ra Y<|Za<|I1 (fun rest=>⟨[(3, .int .i64 rest)], []⟩) h (fun h=>?_) fun rest h=>?_
 ·
  refine Tr<|Ra Y<|Za<|Zf<|?_
  obtain ⟨r1, hl1, ho1⟩ := QO h
  refine L2 (fun rest2 i=>⟨[(1, .rp (List.map C26 f.toList) 0), (3, .int .i64 rest2), (4, .int .i64 i)], []⟩) hl1 (ES []) fun n1 rest2 i h=>?_
  unfold ZaG at h
  refine Zg<|Tr<|Rm Y<|R2 ZH Y<|Za<|K4 1 3 4 7 Y<|If h Y (fun h=>?_) fun h=>?_
  ·
   refine Ze<|Zg<|Zf<|K3 1 3 4 Y<|Tr<|Ra Y<|Za<|I1 (fun bit=>⟨[(1, .rp (List.map C26 f.toList) 0), (3, .int .i64 rest2), (4, .int .i64 i), (5, .int .i64 bit)], []⟩) h (fun h=>?_) fun bit h=>?_
   ·
    refine Tr<|Rm Y<|R2 ZH Y<|Za<|K5 1 3 4 5 11 Y<|If h Y (fun h=>?_) fun h=>?_
    ·
     exact K4 1 3 4 5 Y<|Zk<|Rm Y<|bE h fun q h_q h=>Rq Y (Zf1 (ov Y) (ov Y) h_q)<|bE h fun x h_x h=>Rq Y (QB (ov Y) (ov Y) X8 h_x)<|Rq Y (Zd (ov Y) Je<|Z8<|QV (o := 0) (o' := (q.toNat * 1)) (Zl arL)<|QW h_x)<|Rq Y (QI (ov Y) Zdg tI3 Y)<|Rm Y<|bE h fun q2 h_q2 h=>Rq Y (Zab (ov Y) (ov Y) h_q2)<|R2 ZaF Y<|bE h fun q3 h_q3 h=>Rq Y (ZbQ (ov Y) (ov Y) h_q3)<|R2 ZbG Y<|Ra Y<|Za<|⟨_, h, ES []⟩
    ·
     exact Ze<|⟨_, h, ES []⟩
   ·
    refine Tr<|Rm Y<|R2 Zft Y<|Rm Y<|R2 ZN Y<|Ra Y<|Za<|K3 1 3 4 Y<|Tr<|Rm Y<|R2 Zga Y<|Za<|K4 1 3 4 27 Y<|If h Y (fun h=>?_) fun h=>?_
    ·
     exact K3 1 3 4 Y<|Zk<|Rm Y<|R2 Zii Y<|Ra Y<|Za<|K3 1 3 4 Y<|Zk<|Rm Y<|R2 ZN Y<|Ra Y<|Za<|⟨_, h, ES []⟩
    ·
     exact Ze<|K3 1 3 4 Y<|Zk<|Rm Y<|R2 ZN Y<|Ra Y<|Za<|⟨_, h, ES []⟩
  ·
   refine Zw<|?_
   replace h := lx h ▸ ho1
   exact ⟨_, h, ES []⟩
 ·
  refine Tr<|Rm Y<|Ra Y<|Za<|?_
  obtain rfl := rt h
  exact Zj (ZE Y (.one<|rb Y))
theorem ZhD {f : Vector Int 64} {r : (List api_Flaw)} (h : ZcP f = some r) :
 CSpec Tryz.prog gl0 20 [.agg (List.map C26 f.toList)] (.sl 95 (List.map R95 r)) := by
 unfold ZcP at h
 replace h := Qo h
 refine So Tryz.func20 Y fun w0 A=>Tr<|Rq Y (ZaC (cva<|ov Y) arL tZ_28<|arD fun _ => Y)<|Ra Y<|Za<|K1 1 Y<|Tr<|Ra Y<|Za<|I1 (fun out=>⟨[(1, .rp (List.map C26 f.toList) 0), (3, .own 0 out.length)], [some ⟨95, List.map R95 out⟩]⟩) h (fun h=>?_) fun out h=>?_
 ·
  refine Tr<|Rq Y (ZP (ov Y) Xn (Qb<|Zl arL) arL)<|Rm Y<|Za<|Zf<|?_
  obtain ⟨r1, hl1, ho1⟩ := QO h
  refine L2 (fun out2 i=>⟨[(1, .rp (List.map C26 f.toList) 0), (3, .own 0 out2.length), (7, .agg (List.map C26 f.toList)), (8, .int .i64 i)], [some ⟨95, List.map R95 out2⟩]⟩) hl1 (ES [none]) fun n1 out2 i h=>?_
  unfold ZaS at h
  refine Tr<|R2 ZH Y<|Za<|Zg<|If h Y (fun h=>?_) fun h=>?_
  ·
   refine Ze<|Zg<|Zf<|K4 1 3 7 8 Y<|Tr<|Rm Y<|bE h fun x h_x h=>Rq Y (Zf3 (ov Y) (ov Y) X8 Je h_x)<|Ra Y<|Ra Y<|Za<|K6 1 3 4 5 7 8 Y<|Tr<|Rm Y<|R2 Zaw Y<|Za<|K6 1 3 4 7 8 13 Y<|If h Y (fun h=>?_) fun h=>?_
   ·
    exact K5 1 3 4 7 8 Y<|Zk<|Rm Y<|Rm Y<|Rq Y (Jz (ys := [_, _]) ZeT ZeW ZhF (.cons (cvs (ov Y)<|ZT Y)<|.cons (cvs (ov Y)<|ZT Y) .nil) Y)<|R_q (.sl 95<|List.map R95 ([(api_Flaw.mk i 5)] : List api_Flaw)) Y (ZaV Zcb (.cons (cva<|ov Y) Y (pwD Y) .nil) Y Y)<|bE h fun l h_l h=>Rx Y (QC (ov Y) (QX (ov Y) tZ_95) Zcb Y Y Y (fun _=>Zc Y) Y h_l)<|Ra Y<|Za<|K4 1 3 7 8 Y<|Zk<|R2 ZN Y<|Rm Y<|Za<|⟨_, h, ES [some 0]⟩
   ·
    exact Ze<|K4 1 3 7 8 Y<|Zk<|R2 ZN Y<|Rm Y<|Za<|⟨_, h, ES [some 0]⟩
  ·
   refine Zw<|?_
   replace h := lx h ▸ ho1
   exact ⟨_, h, ES [some 0]⟩
 ·
  refine Zg<|Tr<|Rm Y<|Rq Y (Zd6 (ov Y) Y Y Zcb)<|R2 Zaw Y<|Za<|K3 1 3 22 Y<|If h Y (fun h=>?_) fun h=>?_
  ·
   refine K1 3 Y<|Tr<|Rm Y<|Ra Y<|Za<|?_
   obtain rfl := rt h
   exact Zj (ZE Y (.one<|.tmp Y<|View.ownM Y Y D95))
  ·
   refine Ze<|I1 (fun out3=>⟨[(1, .rp (List.map C26 f.toList) 0), (3, .own 0 out3.length)], [some ⟨95, List.map R95 out3⟩]⟩) h (fun h=>?_) fun out3 h=>?_
   ·
    refine Zg<|K2 1 3 Y<|Qn (cw := md0) (by kernel_rfl)<|bE h fun x2 h_x2 h=>Dq 0 Y (QB (ov Y) (ov Y) X8 h_x2)<|Dq 1 Y (Zd (ov Y) Je<|Z8<|QV (o := 0) (o' := ((Int.toNat 0) * 1)) (Zl arL)<|QW h_x2)<|Dq 2 Y (QI (ov Y) Zdg tI3 Y)<|Dq 3 Y (ZP (ov Y) Xn (Qb<|Zl arL) arL)<|bE h fun y h_y h=>Dq 4 Y (Zn (Zdk h_y)<|.cons (ov Y) (.aggB<|arD fun _ => Y) .nil)<|bE h fun y2 h_y2 h=>Dq 5 Y (Zn (Zg5 h_y2)<|.cons (ov Y) (.b Y) .nil)<|D2 6 QR Y<|Dd<|K3 1 3 30 Y<|If h Y (fun h=>?_) fun h=>?_
    ·
     exact K2 1 3 Y<|Zk<|Rm Y<|Rq Y (Jz (ys := [_, _]) ZeT ZeW ZhF (.cons (cvs (ov Y)<|ZT Y)<|.cons (cvs (ov Y)<|ZT Y) .nil) Y)<|R_q (.sl 95<|List.map R95 ([(api_Flaw.mk 0 1)] : List api_Flaw)) Y (ZaV Zcb (.cons (cva<|ov Y) Y (pwD Y) .nil) Y Y)<|bE h fun l2 h_l2 h=>Rx Y (QC (ov Y) (QX (ov Y) tZ_95) Zcb Y Y Y (fun _=>Zc Y) Y h_l2)<|Ra Y<|Za<|⟨_, h, ES [some 0]⟩
    ·
     exact Ze<|⟨_, h, ES [some 0]⟩
   ·
    refine I1 (fun out4=>⟨[(1, .rp (List.map C26 f.toList) 0), (3, .own 0 out4.length)], [some ⟨95, List.map R95 out4⟩]⟩) h (fun h=>?_) fun out4 h=>?_
    ·
     refine Tr<|Ra Y<|Za<|Zf<|?_
     obtain ⟨r2, hl2, ho2⟩ := QO h
     refine L2 (fun out5 i2=>⟨[(1, .rp (List.map C26 f.toList) 0), (3, .own 0 out5.length), (6, .int .i64 i2)], [some ⟨95, List.map R95 out5⟩]⟩) hl2 (ES [some 0]) fun n2 out5 i2 h=>?_
     unfold ZaH at h
     refine Zg<|Tr<|Rm Y<|R2 ZH Y<|Za<|K4 1 3 6 36 Y<|If h Y (fun h=>?_) fun h=>?_
     ·
      refine Ze<|Zg<|Zf<|K3 1 3 6 Y<|Tr<|Rm Y<|bE h fun x3 h_x3 h=>Rq Y (QB (ov Y) (ov Y) X8 h_x3)<|Rq Y (Zd (ov Y) Je<|Z8<|QV (o := 0) (o' := (i2.toNat * 1)) (Zl arL)<|QW h_x3)<|Rq Y (QI (ov Y) Zdg tI3 Y)<|bE h fun y3 h_y3 h=>Rq Y (Zn (Zgf h_y3)<|.cons (ov Y) (.b Y) .nil)<|R1 Xv Y<|Za<|K4 1 3 6 44 Y<|If h Y (fun h=>?_) fun h=>?_
      ·
       exact K3 1 3 6 Y<|Zk<|Rm Y<|Rm Y<|Rq Y (Jz (ys := [_, _]) ZeT ZeW ZhF (.cons (cvs (ov Y)<|ZT Y)<|.cons (cvs (ov Y)<|ZT Y) .nil) Y)<|R_q (.sl 95<|List.map R95 ([(api_Flaw.mk i2 2)] : List api_Flaw)) Y (ZaV Zcb (.cons (cva<|ov Y) Y (pwD Y) .nil) Y Y)<|bE h fun l3 h_l3 h=>Rx Y (QC (ov Y) (QX (ov Y) tZ_95) Zcb Y Y Y (fun _=>Zc Y) Y h_l3)<|Ra Y<|Za<|K3 1 3 6 Y<|Zk<|Rm Y<|R2 ZN Y<|Ra Y<|Za<|⟨_, h, ES [some 0]⟩
      ·
       exact Ze<|K3 1 3 6 Y<|Zk<|Rm Y<|R2 ZN Y<|Ra Y<|Za<|⟨_, h, ES [some 0]⟩
     ·
      refine Zw<|?_
      replace h := lx h ▸ ho2
      exact ⟨_, h, ES [some 0]⟩
    ·
     refine I1 (fun out6=>⟨[(1, .rp (List.map C26 f.toList) 0), (3, .own 0 out6.length)], [some ⟨95, List.map R95 out6⟩]⟩) h (fun h=>?_) fun out6 h=>?_
     ·
      refine Zg<|Qn (cw := md0) (by kernel_rfl)<|bE h fun x4 h_x4 h=>Dq 0 Y (QB (ov Y) (ov Y) X8 h_x4)<|Dq 1 Y (Zd (ov Y) Je<|Z8<|QV (o := 0) (o' := ((Int.toNat 61) * 1)) (Zl arL)<|QW h_x4)<|Dq 2 Y (QI (ov Y) Zdg tI3 Y)<|bE h fun q h_q h=>Dq 3 Y (Zab (ov Y) (ov Y) h_q)<|Dq 4 Y (ZP (ov Y) Xn (Qb<|Zl arL) arL)<|bE h fun y4 h_y4 h=>Dq 5 Y (Zn (Zjk h_y4)<|.cons (ov Y) (.aggB<|arD fun _ => Y) .nil)<|D2 6 QR Y<|Dd<|K3 1 3 56 Y<|If h Y (fun h=>?_) fun h=>?_
      ·
       exact K2 1 3 Y<|Zk<|Rm Y<|Rq Y (Jz (ys := [_, _]) ZeT ZeW ZhF (.cons (cvs (ov Y)<|ZT Y)<|.cons (cvs (ov Y)<|ZT Y) .nil) Y)<|R_q (.sl 95<|List.map R95 ([(api_Flaw.mk 61 3)] : List api_Flaw)) Y (ZaV Zcb (.cons (cva<|ov Y) Y (pwD Y) .nil) Y Y)<|bE h fun l4 h_l4 h=>Rx Y (QC (ov Y) (QX (ov Y) tZ_95) Zcb Y Y Y (fun _=>Zc Y) Y h_l4)<|Ra Y<|Za<|⟨_, h, ES [some 0]⟩
      ·
       exact Ze<|⟨_, h, ES [some 0]⟩
     ·
      refine Zg<|Zg<|Qn (cw := md0) (by kernel_rfl)<|bE h fun x5 h_x5 h=>Dq 0 Y (QB (ov Y) (ov Y) X8 h_x5)<|Dq 1 Y (Zd (ov Y) Je<|Z8<|QV (o := 0) (o' := ((Int.toNat 62) * 1)) (Zl arL)<|QW h_x5)<|Dq 2 Y (QI (ov Y) Zdg tI3 Y)<|bE h fun q2 h_q2 h=>Dq 3 Y (Zab (ov Y) (ov Y) h_q2)<|D2 4 Zft Y<|bE h fun x6 h_x6 h=>Dq 5 Y (QB (ov Y) (ov Y) X8 h_x6)<|Dq 6 Y (Zd (ov Y) Je<|Z8<|QV (o := 0) (o' := ((Int.toNat 63) * 1)) (Zl arL)<|QW h_x6)<|Dq 7 Y (QI (ov Y) Zdg tI3 Y)<|bE h fun q3 h_q3 h=>Dq 8 Y (Zab (ov Y) (ov Y) h_q3)<|D2 9 ZN Y<|Dq 10 Y (ZP (ov Y) Xn (Qb<|Zl arL) arL)<|bE h fun y5 h_y5 h=>Dq 11 Y (Zn (ZhC h_y5)<|.cons (ov Y) (.aggB<|arD fun _ => Y) .nil)<|D2 12 QR Y<|Dd<|K2 3 73 Y<|If h Y (fun h=>?_) fun h=>?_
      ·
       refine K1 3 Y<|Zk<|Rm Y<|Rq Y (Jz (ys := [_, _]) ZeT ZeW ZhF (.cons (cvs (ov Y)<|ZT Y)<|.cons (cvs (ov Y)<|ZT Y) .nil) Y)<|R_q (.sl 95<|List.map R95 ([(api_Flaw.mk 62 4)] : List api_Flaw)) Y (ZaV Zcb (.cons (cva<|ov Y) Y (pwD Y) .nil) Y Y)<|bE h fun l5 h_l5 h=>Rx Y (QC (ov Y) (QX (ov Y) tZ_95) Zcb Y Y Y (fun _=>Zc Y) Y h_l5)<|Ra Y<|Za<|K1 3 Y<|Tr<|Rm Y<|Ra Y<|Za<|?_
       obtain rfl := rt h
       exact Zj (ZE Y (.one<|.tmp Y<|View.ownM Y Y D95))
      ·
       refine Ze<|K1 3 Y<|Tr<|Rm Y<|Ra Y<|Za<|?_
       obtain rfl := rt h
       exact Zj (ZE Y (.one<|.tmp Y<|View.ownM Y Y D95))
theorem ZhK {f : Vector Int 64} {r : Bool} (h : Zbf f = some r) :
 CSpec Tryz.prog gl0 7 [.agg (List.map C26 f.toList)] (.bool r) := by
 unfold Zbf at h
 replace h := Qo h
 refine So Tryz.func7 Y fun w0 A=>Tr<|Rq Y (ZaC (cva<|ov Y) arL tZ_28<|arD fun _ => Y)<|Ra Y<|Za<|K2 1 2 Y<|Tr<|Rq Y (ZP (ov Y) Xn (Qb<|Zl arL) arL)<|bE h fun y h_y h=>Rq Y (Zn (ZhD h_y)<|.cons (ov Y) (.aggB<|arD fun _ => Y) .nil)<|Rl tZ_95 Zcb Y<|R2 Za1 Y<|Ra Y<|Za<|?_
 obtain rfl := rt h
 exact Zj (ZE Y (.one<|rb Y))
theorem Q9 {n : Int} {low : Int} {high : Int} {r : Bool} (h : Qu n low high = some r) :
 CSpec Tryz.prog gl0 27 [.int .i64 n, .int .i64 low, .int .i64 high] (.bool r) := by
 unfold Qu at h
 replace h := Qo h
 refine So Tryz.func27 Y fun w0 A=>Tr<|Ra Y<|Za<|Tr<|Rm Y<|Rm Y<|R2 Zga Y<|Rm Y<|Rq Y (.guarded ((decide (low ≤ n)) == true) Y Y Y Y fun h => Zb<|ov Y)<|Rq Y (.guarded ((decide (low ≤ n)) == true) Y Y Y Y fun h => Zb<|ov Y)<|Rq Y (.guarded ((decide (low ≤ n)) == true) Y Y Y Y fun h => Zho (ow Y h)<|ow Y h)<|Rq Y (Zb2 (ov Y) fun hp=>ow Y<|gT hp)<|Ra Y<|Za<|?_
 obtain rfl := rt h
 exact Zj (ZE Y (.one<|rb Y))
theorem ZeG {slots : Int} {r : Int} (h : Jr slots = some r) :
 CSpec Tryz.prog gl0 84 [.int .i64 slots] (.int .i64 r) := by
 unfold Jr at h
 replace h := Qo h
 refine So Tryz.func84 Y fun w0 A=>Tr<|Ra Y<|Za<|Tr<|Rm Y<|R2 Zft Y<|R2 ZN Y<|Ra Y<|Za<|?_
 obtain rfl := rt h
 exact Zj (ZE Y (.one<|rb Y))
theorem ZeK {m : api_Memory} {r : Int} (h : Xl m = some r) :
 CSpec Tryz.prog gl0 54 [.agg [.int .i64 m.Slots, .int .i64 m.Limit, .sl 56 (List.map R56 m.Sectors), .sl 3 (List.map R3 m.Wear), .sl 4 (List.map R4 m.Bad)]] (.int .i64 r) := by
 unfold Xl at h
 replace h := Qo h
 refine So Tryz.func54 Y fun w0 A=>Tr<|Rq Y (ZaC (cva<|ov Y) Y tZ_55 Y)<|Ra Y<|Za<|K1 1 Y<|Tr<|Rq Y (ZS (ov Y) Jw)<|Rq Y (Zd (ov Y) ZdB Y)<|Rl tZ_56 Zcd Y<|Ra Y<|Za<|Zg<|Zf<|K2 1 3 Y<|Tr<|Rq Y (ZS (ov Y) Zet)<|Rq Y (Zd (ov Y) tS3 Y)<|bE h fun y h_y h=>Rq Y (Zn (Q9 h_y)<|.cons (ov Y) (.b Y)<|.cons (ov Y) (.b Y)<|.cons (ov Y) (.b Y) .nil)<|R1 Xv Y<|Rm Y<|Rq Y (.guarded ((!y) == false) Y Y Y Y fun h => ZS (ov Y) Zf7)<|Rq Y (.guarded ((!y) == false) Y Y Y Y fun h => Zd (ow Y h) tS3 Y)<|bE h fun y2 h_y2 h=>Rq Y (.guarded ((!y) == false) Y Y Y Y fun h => Zn (Q9<|gdT h_y2 h)<|.cons (ow Y h) (.b Y)<|.cons (ov Y) (.b Y)<|.cons (ov Y) (.b Y) .nil)<|Rq Y (.guarded ((!y) == false) Y Y Y Y fun h => Xv<|ow Y h)<|Rq Y (Zb9 (ov Y) fun hp=>ow Y<|gF hp)<|Rm Y<|Rq Y (.guarded (((!y) || (!y2)) == false) Y Y Y Y fun h => Zb<|ov Y)<|bE h fun y3 h_y3 h=>Rq Y (.guarded (((!y) || (!y2)) == false) Y Y Y Y fun h => Zn (Q9<|gdT h_y3 h)<|.cons (ow Y h) (.b Y)<|.cons (ov Y) (.b Y)<|.cons (ov Y) (.b Y) .nil)<|Rq Y (.guarded (((!y) || (!y2)) == false) Y Y Y Y fun h => Xv<|ow Y h)<|Rq Y (Zb9 (ov Y) fun hp=>ow Y<|gF hp)<|Ra Y<|Za<|K3 1 3 9 Y<|If h Y (fun h=>?_) fun h=>?_
 ·
  refine K0<|Tr<|Ra Y<|Za<|?_
  obtain rfl := rt h
  exact Zj (ZE Y (.one<|rb Y))
 ·
  refine K2 1 3 Y<|Tr<|Rq Y (ZS (ov Y) Zc9)<|Rq Y (Zd (ov Y) ZhN Y)<|Rl tZ_3 Q5 Y<|Rm Y<|R2 QR Y<|Rm Y<|Rq Y (.guarded ((!decide ((m.Wear.length : Int) = (m.Sectors.length : Int))) == false) Y Y Y Y fun h => ZS (ov Y) ZdK)<|Rq Y (.guarded ((!decide ((m.Wear.length : Int) = (m.Sectors.length : Int))) == false) Y Y Y Y fun h => Zd (ow Y h) ZhM Y)<|Rq Y (.guarded ((!decide ((m.Wear.length : Int) = (m.Sectors.length : Int))) == false) Y Y Y Y fun h => ZgU (QX (ow Y h) tZ_4) Zix<|Zdu _ _)<|Rq Y (.guarded ((!decide ((m.Wear.length : Int) = (m.Sectors.length : Int))) == false) Y Y Y Y fun h => Zb<|ov Y)<|Rq Y (.guarded ((!decide ((m.Wear.length : Int) = (m.Sectors.length : Int))) == false) Y Y Y Y fun h => QR (ow Y h)<|ow Y h)<|Rq Y (Zb9 (ov Y) fun hp=>ow Y<|gF hp)<|Ra Y<|Za<|K2 1 25 Y<|If h Y (fun h=>?_) fun h=>?_
  ·
   refine K0<|Tr<|Ra Y<|Za<|?_
   obtain rfl := rt h
   exact Zj (ZE Y (.one<|rb Y))
  ·
   refine Ze<|J0 (fun j => (.inr j)) ⟨[], []⟩ h (fun h=>?_) fun h=>?_
   ·
    refine K1 1 Y<|Tr<|Rq Y (ZS (ov Y) Jw)<|Rq Y (Zd (ov Y) ZdB Y)<|Rl tZ_56 Zcd Y<|Rm Y<|Za<|Zf<|?_
    obtain ⟨r1, hl1, ho1⟩ := QO h
    refine L1 (fun i=>⟨[(1, .rp [.int .i64 m.Slots, .int .i64 m.Limit, .sl 56 (List.map R56 m.Sectors), .sl 3 (List.map R3 m.Wear), .sl 4 (List.map R4 m.Bad)] 0), (39, .sl 56 (List.map R56 m.Sectors)), (40, .int .i64 (m.Sectors.length : Int)), (41, .int .i64 i)], []⟩) hl1 (ES []) fun n1 i h=>?_
    unfold QN at h
    refine Tr<|R2 ZH Y<|Za<|Zg<|If h Y (fun h=>?_) fun h=>?_
    ·
     refine Ze<|Zg<|Zf<|K4 1 39 40 41 Y<|Tr<|Rm Y<|bE h fun x h_x h=>Rq Y (ZX (ov Y) (ov Y) Zcd h_x)<|Rq Y (Zd (ov Y) Zfl Y)<|Ra Y<|Ra Y<|Za<|Zg<|K6 1 4 5 39 40 41 Y<|Tr<|Rm Y<|Rl tZ_5 XR Y<|Rq Y (ZS (ov Y) Zet)<|Rq Y (Zd (ov Y) tS3 Y)<|bE h fun y4 h_y4 h=>Rq Y (Zn (ZeG h_y4)<|.cons (ov Y) (.b Y) .nil)<|R2 QR Y<|Za<|K6 1 4 39 40 41 51 Y<|If h Y (fun h=>?_) fun h=>?_
     ·
      refine K0<|Tr<|Ra Y<|Za<|?_
      replace h := lx h ▸ ho1
      obtain rfl := rt h
      exact Zj (ZE Y (.one<|rb Y))
     ·
      refine Ze<|Zg<|K5 1 4 39 40 41 Y<|Qn (cw := md0) (by kernel_rfl)<|Dq 0 Y (ZS (ov Y) Zc9)<|Dq 1 Y (Zd (ov Y) ZhN Y)<|D1 2 Zb Y<|bE h fun x2 h_x2 h=>Dq 3 Y (ZX (ov Y) (ov Y) Q5 h_x2)<|Dq 4 Y (Zd (ov Y) tS3 Y)<|Dq 5 Y (ZS (ov Y) Zf7)<|Dq 6 Y (Zd (ov Y) tS3 Y)<|bE h fun y5 h_y5 h=>Dq 7 Y (Zn (Q9 h_y5)<|.cons (ov Y) (.b Y)<|.cons (ov Y) (.b Y)<|.cons (ov Y) (.b Y) .nil)<|D1 8 Xv Y<|Dd<|K5 1 39 40 41 60 Y<|If h Y (fun h=>?_) fun h=>?_
      ·
       refine K0<|Tr<|Ra Y<|Za<|?_
       replace h := lx h ▸ ho1
       obtain rfl := rt h
       exact Zj (ZE Y (.one<|rb Y))
      ·
       exact Ze<|K4 1 39 40 41 Y<|Zk<|R2 ZN Y<|Rm Y<|Za<|⟨_, h, ES []⟩
    ·
     refine Zw<|?_
     replace h := lx h ▸ ho1
     exact ⟨(), h, ES []⟩
   ·
    replace h := elr h
    replace h := t0i h
    refine Tr<|Ra Y<|Za<|?_
    obtain rfl := rt h
    exact Zj (ZE Y (.one<|rb Y))
theorem ZbO {l : List api_Memory} {r : Int} (h : Xo l = some r) :
 CSpec Tryz.prog gl0 26 [.sl 55 (List.map R55 l)] (.int .i64 r) := by
 unfold Xo at h
 replace h := Qo h
 refine So Tryz.func26 Y fun w0 A=>Tr<|Ra Y<|Za<|Zg<|K1 0 Y<|Tr<|Rm Y<|Rl tZ_55 ZaB Y<|bE h fun y h_y h=>Rq Y (Zn (Q9 h_y)<|.cons (ov Y) (.b Y)<|.cons (ov Y) (.b Y)<|.cons (ov Y) (.b Y) .nil)<|R1 Xv Y<|Za<|K2 0 9 Y<|If h Y (fun h=>?_) fun h=>?_
 ·
  refine K0<|Tr<|Ra Y<|Za<|?_
  obtain rfl := rt h
  exact Zj (ZE Y (.one<|rb Y))
 ·
  refine Ze<|J0 (fun j => (.inr j)) ⟨[], []⟩ h (fun h=>?_) fun h=>?_
  ·
   refine K1 0 Y<|Tr<|Rm Y<|Rl tZ_55 ZaB Y<|Rm Y<|Za<|Zf<|?_
   obtain ⟨r1, hl1, ho1⟩ := QO h
   refine L1 (fun i=>⟨[(10, .sl 55 (List.map R55 l)), (11, .int .i64 (l.length : Int)), (12, .int .i64 i)], []⟩) hl1 (ES []) fun n1 i h=>?_
   unfold ring_checkAll_L1 at h
   refine Tr<|R2 ZH Y<|Za<|Zg<|If h Y (fun h=>?_) fun h=>?_
   ·
    refine Ze<|Zg<|Zf<|K3 10 11 12 Y<|Tr<|bE h fun x h_x h=>Rq Y (ZX (ov Y) (ov Y) ZaB h_x)<|Rq Y (ZP (ov Y) Za2 Y Y)<|Rx Y (Ql (row := [_, _, _, _, _]) 0 Y ZhO Y tZ_55)<|Rx Y (Zs (ov Y) (ov Y) (ZK Za2 Y) Y Y Y (Nat.le_of_ble_eq_true Y) (Zc Y) Y)<|Za<|K4 4 10 11 12 Y<|Tr<|Rq Y (QS (ov Y) Y Y Y Za2 Y Y)<|bE h fun y2 h_y2 h=>Rq Y (Zn (ZeK h_y2)<|.cons (ov Y) (.aggB Y) .nil)<|Ra Y<|Za<|K4 5 10 11 12 Y<|Tr<|Rm Y<|R2 QR Y<|Za<|K5 5 10 11 12 19 Y<|If h Y (fun h=>?_) fun h=>?_
    ·
     refine K1 5 Y<|Tr<|Rm Y<|Ra Y<|Za<|?_
     replace h := lx h ▸ ho1
     obtain rfl := rt h
     exact Zj (ZE Y (.one<|rb Y))
    ·
     exact Ze<|K3 10 11 12 Y<|Zk<|R2 ZN Y<|Rm Y<|Za<|⟨_, h, ES []⟩
   ·
    refine Zw<|?_
    replace h := lx h ▸ ho1
    exact ⟨(), h, ES []⟩
  ·
   replace h := elr h
   replace h := t0i h
   refine Tr<|Ra Y<|Za<|?_
   obtain rfl := rt h
   exact Zj (ZE Y (.one<|rb Y))
theorem Zi1 {xs r : List Int} (h : ZeY 1 xs = some r) :
 GSpec Tryz.prog gl0 85 [.sl 5 (List.map R5 xs)] [] (.own 0 r.length) [some ⟨5, List.map R5 r⟩] := by
 have h2 : apz 1 [] xs = some r := h
 refine QQ (by kernel_rfl) Tryz.func85 Y Y<|?_
 intro w0 A W φ0
 refine Tr<|Ra Y<|Za<|Zg<|Zg<|Zk<|Rm Y<|Zit (ov Y) ZoV Y fun b hb=>?_
 refine Za<|Ziw Y (fun hb2=>?_) fun hb2=>?_
 ·
  obtain rfl : xs = [] := by simpa using hb hb2
  obtain rfl : r = [] := by simpa [app, apz] using h2.symm
  exact Tr<|Ra Y<|Za<|Zj<|Zbo [none] Y (.cons (.tmp Y) .nil) (.row 5 .nil) Y Y<|.row Y
 ·
  exact Ze<|Tr<|Rx Y (Zih (r := 0) (xs := []) (f := R5) Y XR .nil Y Y Y)<|Rm Y<|Rx Y (ZfM (ov Y) (QX (ov Y) tZ_5) XR Y Y (fun _=>Zc Y) Y h2)<|Ra Y<|Za<|Zj<|Zbo [some 0] Y (.cons (.tmp Y) .nil) (.cons Y (roM D5) .nil) Y Y<|.own _ Y
theorem Zgo {xs r : List Int} (h : ZeY 8 xs = some r) :
 GSpec Tryz.prog gl0 86 [.sl 3 (List.map R3 xs)] [] (.own 0 r.length) [some ⟨3, List.map R3 r⟩] := by
 have h2 : apz 8 [] xs = some r := h
 refine QQ (by kernel_rfl) Tryz.func86 Y Y<|?_
 intro w0 A W φ0
 refine Tr<|Ra Y<|Za<|Zg<|Zg<|Zk<|Rm Y<|Zit (ov Y) Zow Y fun b hb=>?_
 refine Za<|Ziw Y (fun hb2=>?_) fun hb2=>?_
 ·
  obtain rfl : xs = [] := by simpa using hb hb2
  obtain rfl : r = [] := by simpa [app, apz] using h2.symm
  exact Tr<|Ra Y<|Za<|Zj<|Zbo [none] Y (.cons (.tmp Y) .nil) (.row 3 .nil) Y Y<|.row Y
 ·
  exact Ze<|Tr<|Rx Y (Zih (r := 0) (xs := []) (f := R3) Y Q5 .nil Y Y Y)<|Rm Y<|Rx Y (ZfM (ov Y) (QX (ov Y) tZ_3) Q5 Y Y (fun _=>Zc Y) Y h2)<|Ra Y<|Za<|Zj<|Zbo [some 0] Y (.cons (.tmp Y) .nil) (.cons Y (roM D3) .nil) Y Y<|.own _ Y
theorem Zgc {xs r : List Bool} (h : ZeY 1 xs = some r) :
 GSpec Tryz.prog gl0 87 [.sl 4 (List.map R4 xs)] [] (.own 0 r.length) [some ⟨4, List.map R4 r⟩] := by
 have h2 : apz 1 [] xs = some r := h
 refine QQ (by kernel_rfl) Tryz.func87 Y Y<|?_
 intro w0 A W φ0
 refine Tr<|Ra Y<|Za<|Zg<|Zg<|Zk<|Rm Y<|Zit (ov Y) Zoz Y fun b hb=>?_
 refine Za<|Ziw Y (fun hb2=>?_) fun hb2=>?_
 ·
  obtain rfl : xs = [] := by simpa using hb hb2
  obtain rfl : r = [] := by simpa [app, apz] using h2.symm
  exact Tr<|Ra Y<|Za<|Zj<|Zbo [none] Y (.cons (.tmp Y) .nil) (.row 4 .nil) Y Y<|.row Y
 ·
  exact Ze<|Tr<|Rx Y (Zih (r := 0) (xs := []) (f := R4) Y Zix .nil Y Y Y)<|Rm Y<|Rx Y (ZfM (ov Y) (QX (ov Y) tZ_4) Zix Y Y (fun _=>Zc Y) Y h2)<|Ra Y<|Za<|Zj<|Zbo [some 0] Y (.cons (.tmp Y) .nil) (.cons Y (roM D4) .nil) Y Y<|.own _ Y
theorem Zb4 {m : api_Memory} {r : api_Memory} (h : JN m = some r) :
 GSpec Tryz.prog gl0 55 [.agg [.int .i64 m.Slots, .int .i64 m.Limit, .sl 56 (List.map R56 m.Sectors), .sl 3 (List.map R3 m.Wear), .sl 4 (List.map R4 m.Bad)]] [] (.agg [.int .i64 r.Slots, .int .i64 r.Limit, .own 0 r.Sectors.length, .own 1 r.Wear.length, .own 2 r.Bad.length]) [some ⟨56, List.map O56 r.Sectors⟩, some ⟨3, List.map R3 r.Wear⟩, some ⟨4, List.map R4 r.Bad⟩] := by
 unfold JN at h
 replace h := Qo h
 refine QQ (by kernel_rfl) Tryz.func55 Y Y<|?_
 intro w0 A W φ0
 refine Tr<|Rx Y (ZnT 0 Y (ov Y) Za2 Y)<|Rx Y (Ql (row := [_, _, _, _, _]) 1 Y ZhO Y tZ_55)<|Za<|K2 1 2 Y<|Tr<|Ra Y<|Za<|I1 (fun sectors=>⟨[(1, .ptr 0 1 0 0), (2, .ptr 1 1 0 0), (3, .own 2 sectors.length)], [some ⟨55, [[.int .i64 m.Slots, .int .i64 m.Limit, .sl 56 (List.map R56 m.Sectors), .sl 3 (List.map R3 m.Wear), .sl 4 (List.map R4 m.Bad)]]⟩, some ⟨55, [[.int .i64 0, .int .i64 0, .nils, .nils, .nils]]⟩, some ⟨56, List.map O56 sectors⟩]⟩) h (fun h=>?_) fun sectors h=>?_
 ·
  refine Tr<|Rq Y (Zr (ov Y) Y Y Jw)<|Rq Y (ZV (ov Y) Y Y Y ZdB Y)<|Rl tZ_56 Zcd Y<|Rm Y<|Za<|Zf<|?_
  obtain ⟨r1, hl1, ho1⟩ := QO h
  refine L2 (fun sectors2 i=>⟨[(1, .ptr 0 1 0 0), (2, .ptr 1 1 0 0), (3, .own 2 sectors2.length), (7, .sl 56 (List.map R56 m.Sectors)), (8, .int .i64 (m.Sectors.length : Int)), (9, .int .i64 i)], [some ⟨55, [[.int .i64 m.Slots, .int .i64 m.Limit, .sl 56 (List.map R56 m.Sectors), .sl 3 (List.map R3 m.Wear), .sl 4 (List.map R4 m.Bad)]]⟩, some ⟨55, [[.int .i64 0, .int .i64 0, .nils, .nils, .nils]]⟩, some ⟨56, List.map O56 sectors2⟩]⟩) hl1 (ES [some 0, some 1, none]) fun n1 sectors2 i h=>?_
  unfold XM at h
  refine Tr<|R2 ZH Y<|Za<|Zg<|If h Y (fun h=>?_) fun h=>?_
  ·
   exact Ze<|Zg<|Zf<|K6 1 2 3 7 8 9 Y<|Tr<|bE h fun x h_x h=>Rq Y (ZX (ov Y) (ov Y) Zcd h_x)<|Rq Y (Zd (ov Y) Zfl Y)<|Ra Y<|Za<|K7 1 2 3 5 7 8 9 Y<|Zk<|Rm Y<|Rm Y<|bE h fun y h_y h=>Rx Y (Z4 [] (Zi1 h_y) (.cons (ov Y) (.dat Y) .nil) .nil Y (.keep Y Y<|.keep Y Y<|.keep Y Y<|.lent 0 (.inr ⟨Nat.le_of_ble_eq_true Y, Y⟩) Y (roM D5) .nil) Y Y<|.own _<|.inr ⟨Nat.le_of_ble_eq_true Y, Y⟩)<|Rx Y (ZjX (r := 4) Y Zcd (.cons (cvs (ov Y)<|ZT Y) Y .nil) Y Y)<|bE h fun l h_l h=>Rx Y (ZfG (f := O56) (ov Y) (ZiE (o := ⟨56, [[.own 3 y.length]]⟩) (ov Y) Y Y tZ_56) Zcd Y Y (Zc Y) Y h_l)<|Ra Y<|Zd4 [some ⟨55, [[.int .i64 m.Slots, .int .i64 m.Limit, .sl 56 (List.map R56 m.Sectors), .sl 3 (List.map R3 m.Wear), .sl 4 (List.map R4 m.Bad)]]⟩, some ⟨55, [[.int .i64 0, .int .i64 0, .nils, .nils, .nils]]⟩, some ⟨56, List.set (List.map O56 l) sectors2.length [.own 3 y.length]⟩, some ⟨5, List.map R5 y⟩, some ⟨56, [[.own 3 y.length]]⟩] Y<|Xg (Ent.absorbH (r := 2) (j := 0) (q := 3) Y (ZaR h_l) Y Y (List.length_map ..) Y)<|Xg (Ent.closeS (r := 2) Y (ZaR h_l) Y)<|Za<|K6 1 2 3 7 8 9 Y<|QZ [some ⟨55, [[.int .i64 m.Slots, .int .i64 m.Limit, .sl 56 (List.map R56 m.Sectors), .sl 3 (List.map R3 m.Wear), .sl 4 (List.map R4 m.Bad)]]⟩, some ⟨55, [[.int .i64 0, .int .i64 0, .nils, .nils, .nils]]⟩, some ⟨56, List.map O56 l⟩, none, some ⟨56, [[.own 3 y.length]]⟩] Y<|Zk<|R2 ZN Y<|Rm Y<|Za<|⟨_, h, ES [some 0, some 1, some 2] (hhp := .cons Y (ro1 (by exact tZ_55.symm)<|rld Y)<|.cons Y (ro1 (by exact tZ_55.symm)<|rld Y)<|.cons Y (roO ZfS) .nil)⟩
  ·
   refine Zw<|?_
   replace h := lx h ▸ ho1
   exact ⟨_, h, ES [some 0, some 1, some 2] (hhp := .cons Y (ro1 (by exact tZ_55.symm)<|rld Y)<|.cons Y (ro1 (by exact tZ_55.symm)<|rld Y)<|.cons Y (roO ZfS) .nil)⟩
 ·
  refine Zg<|Qn (cw := ⟨true, true, [some ⟨55, [[.int .i64 m.Slots, .int .i64 m.Limit, .sl 56 (List.map R56 m.Sectors), .sl 3 (List.map R3 m.Wear), .sl 4 (List.map R4 m.Bad)]]⟩, some ⟨55, [[.int .i64 0, .int .i64 0, .nils, .nils, .nils]]⟩, some ⟨56, List.map O56 sectors⟩], [], [0]⟩) (by kernel_rfl)<|Dq 1 Y (Zr (ov Y) Y Y Zc9)<|Dq 2 Y (ZV (ov Y) Y Y Y ZhN Y)<|Qc 0 _ Y (by kernel_rfl) Y Y (fun hp'=>Zb<|ov Y)<|XS 4 _ Y (by kernel_rfl) Y Y Y (EL.ext<|.wr Y Y Y<|.keep<|.keep .nil) (fun hp' hx=>exW (r := 0) hx Y fun _ ho hn => Zr (ov Y) ho hn ZdK)<|bE h fun y2 h_y2 h=>Zme 5 3 Y Y (by kernel_rfl) Y Y Y Y (fun h=>by cases h) (fun _=>by exact EL.ext (.wr rfl rfl rfl <| .keep <| .keep <| .nil)) (ZV (ov Y) Y Y Y ZhM Y) (Z4 [] (Zgo h_y2) (.cons (ov Y) (.dat Y) .nil) .nil Y (.keep Y Y<|.keep Y Y<|.keep Y Y<|.lent 0 (.inr ⟨Nat.le_of_ble_eq_true Y, Y⟩) Y (roM D3) .nil) Y Y<|.own _<|.inr ⟨Nat.le_of_ble_eq_true Y, Y⟩) ?_ ?_
  ·
   refine XS 7 _ Y (by kernel_rfl) Y Y Y (EL.ext<|.wr Y Y Y<|.keep<|.keep .nil) (fun hp' hx=>exW (r := 0) hx Y fun _ ho hn => Zr (ov Y) ho hn Jw)<|ZcA 3 _ _ Y (by kernel_rfl) Y Y (fun h=>by cases h) (fun _=>by exact EL.ext (.wr rfl rfl rfl <| .keep <| .keep <| .nil)) (Z4 [] (Zgo h_y2) (.cons (ov Y) (.dat Y) .nil) .nil Y (.keep Y Y<|.keep Y Y<|.keep Y Y<|.lent 0 (.inr ⟨Nat.le_of_ble_eq_true Y, Y⟩) Y (roM D3) .nil) Y Y<|.own _<|.inr ⟨Nat.le_of_ble_eq_true Y, Y⟩)<|bE h fun y3 h_y3 h=>ZcA 6 _ _ Y (by kernel_rfl) Y Y (fun h=>by cases h) (fun _=>by exact EL.ext (.wr rfl rfl rfl <| .keep <| .keep <| .nil)) (Z4 [] (Zgc h_y3) (.cons (ov Y) (.dat Y) .nil) .nil Y (.keep Y Y<|.keep Y Y<|.keep Y Y<|.keep Y Y<|.lent 0 (.inr ⟨Nat.le_of_ble_eq_true Y, Y⟩) Y (roM D4) .nil) Y Y<|.own _<|.inr ⟨Nat.le_of_ble_eq_true Y, Y⟩)<|ZcA 8 _ _ Y (by kernel_rfl) Y Y (fun h=>by cases h) (fun _=>by exact EL.ext (.wr rfl rfl rfl <| .keep <| .keep <| .nil)) (Zs (ov Y) (ov Y) (Zo ZdB) Y Y Y (Nat.le_of_ble_eq_true Y) (Zc Y) Y)<|Dq 9 Y (Zr (ov Y) Y Y Zc9)<|ZcA 10 _ _ Y (by kernel_rfl) Y Y (fun h=>by cases h) (fun _=>by exact EL.ext (.wr rfl rfl rfl <| .keep <| .keep <| .nil)) (Zs (ov Y) (ov Y) (Zo ZhN) Y Y Y (Nat.le_of_ble_eq_true Y) (Zc Y) Y)<|Dq 11 Y (Zr (ov Y) Y Y ZdK)<|ZcA 12 _ _ Y (by kernel_rfl) Y Y (fun h=>by cases h) (fun _=>by exact EL.ext (.wr rfl rfl rfl <| .keep <| .keep <| .nil)) (Zs (ov Y) (ov Y) (Zo ZhM) Y Y Y (Nat.le_of_ble_eq_true Y) (Zc Y) Y)<|Dd<|K2 1 2 Y<|QZ [some ⟨55, [[.int .i64 m.Slots, .int .i64 m.Limit, .own 2 sectors.length, .own 3 y2.length, .own 4 y3.length]]⟩, some ⟨55, [[.int .i64 0, .int .i64 0, .nils, .nils, .nils]]⟩, some ⟨56, List.map O56 sectors⟩, some ⟨3, List.map R3 y2⟩, some ⟨4, List.map R4 y3⟩] Y<|Tr<|Rq Y (QS (ov Y) Y Y Y Za2 Y Y)<|Rx Y (Zs (ov Y) (ov Y) (ZK Za2 Y) Y Y Y (Nat.le_of_ble_eq_true Y) (Zc Y) Y)<|Za<|?_
   obtain rfl := rt h
   exact Zj<|Zbo [some 2, some 3, some 4] Y (.cons (.agg Y Y Y Y Za2 Y Y) .nil) (.cons Y (roO ZfS)<|.cons Y (roM D3)<|.cons Y (roM D4) .nil) Y Y<|ZdJ<|rlc (.dat Y)<|rlc (.dat Y)<|rlc (.own _ Y)<|rlc (.own _ Y)<|rlc (.own _ Y) rln
  ·
   refine Dq 5 Y (ZV (ov Y) Y Y Y ZhM Y)<|XS 7 _ Y (by kernel_rfl) Y Y Y (EL.ext<|.wr Y Y Y<|.keep<|.keep .nil) (fun hp' hx=>exW (r := 0) hx Y fun _ ho hn => Zr (ov Y) ho hn Jw)<|bE h fun y3 h_y3 h=>ZcA 6 _ _ Y (by kernel_rfl) Y Y (fun h=>by cases h) (fun _=>by exact EL.ext (.wr rfl rfl rfl <| .keep <| .keep <| .nil)) (Z4 [] (Zgc h_y3) (.cons (ov Y) (.dat Y) .nil) .nil Y (.keep Y Y<|.keep Y Y<|.keep Y Y<|.keep Y Y<|.lent 0 (.inr ⟨Nat.le_of_ble_eq_true Y, Y⟩) Y (roM D4) .nil) Y Y<|.own _<|.inr ⟨Nat.le_of_ble_eq_true Y, Y⟩)<|ZcA 8 _ _ Y (by kernel_rfl) Y Y (fun h=>by cases h) (fun _=>by exact EL.ext (.wr rfl rfl rfl <| .keep <| .keep <| .nil)) (Zs (ov Y) (ov Y) (Zo ZdB) Y Y Y (Nat.le_of_ble_eq_true Y) (Zc Y) Y)<|Dq 9 Y (Zr (ov Y) Y Y Zc9)<|ZcA 10 _ _ Y (by kernel_rfl) Y Y (fun h=>by cases h) (fun _=>by exact EL.ext (.wr rfl rfl rfl <| .keep <| .keep <| .nil)) (Zs (ov Y) (ov Y) (Zo ZhN) Y Y Y (Nat.le_of_ble_eq_true Y) (Zc Y) Y)<|Dq 11 Y (Zr (ov Y) Y Y ZdK)<|ZcA 12 _ _ Y (by kernel_rfl) Y Y (fun h=>by cases h) (fun _=>by exact EL.ext (.wr rfl rfl rfl <| .keep <| .keep <| .nil)) (Zs (ov Y) (ov Y) (Zo ZhM) Y Y Y (Nat.le_of_ble_eq_true Y) (Zc Y) Y)<|Dd<|K2 1 2 Y<|QZ [some ⟨55, [[.int .i64 m.Slots, .int .i64 m.Limit, .own 2 sectors.length, .own 3 y2.length, .own 4 y3.length]]⟩, some ⟨55, [[.int .i64 0, .int .i64 0, .nils, .nils, .nils]]⟩, some ⟨56, List.map O56 sectors⟩, some ⟨3, List.map R3 y2⟩, some ⟨4, List.map R4 y3⟩] Y<|Tr<|Rq Y (QS (ov Y) Y Y Y Za2 Y Y)<|Rx Y (Zs (ov Y) (ov Y) (ZK Za2 Y) Y Y Y (Nat.le_of_ble_eq_true Y) (Zc Y) Y)<|Za<|?_
   obtain rfl := rt h
   exact Zj<|Zbo [some 2, some 3, some 4] Y (.cons (.agg Y Y Y Y Za2 Y Y) .nil) (.cons Y (roO ZfS)<|.cons Y (roM D3)<|.cons Y (roM D4) .nil) Y Y<|ZdJ<|rlc (.dat Y)<|rlc (.dat Y)<|rlc (.own _ Y)<|rlc (.own _ Y)<|rlc (.own _ Y) rln
end Go.Proofs.YtjfoenlooacoiabGreatDoor
