/- A text of the proof: a verified executor of the program form, or the contracts of the functions that the law reaches. -/
import Derived.Test.YtnlmjeleocelgaaDoorVS
import Derived.Test.YtnlmjeleocelgaaDoorPA
import Derived.Test.YtnlmjeleocelgaaDoorProg
import Derived.Test.YtnlmjeleocelgaaDoorLayD
set_option linter.all false
namespace Go.Proofs.YtnlmjeleocelgaaDoor
open Go Go.Vx
set_option maxRecDepth 10000
set_option maxHeartbeats 2000000
set_option linter.unusedVariables false
theorem Xt : tSl Tryd.prog 22 3 1 8 = true := by kernel_rfl
theorem tZ_3 : Tryd.prog.cellsOf 3 = 1 := by kernel_rfl
instance : SzD Tryd.prog 3 1 := ⟨tZ_3⟩
theorem tS3 : tScal Tryd.prog 3 = true := by kernel_rfl
theorem tZ3 : Xq Tryd.prog 3 = some [.int .i64 0] := by kernel_rfl
theorem ZeQ : Xq Tryd.prog 44 = some [.int .u16 0, .int .u16 0, .int .u16 0, .int .u16 0, .int .u16 0, .int .u16 0, .int .u16 0, .int .u16 0, .int .u16 0, .int .u16 0, .int .u16 0, .int .u16 0, .int .u16 0, .int .u16 0, .int .u16 0, .int .u16 0, .int .u16 0, .int .u16 0, .int .u16 0, .int .u16 0, .int .u16 0, .int .u16 0, .int .u16 0, .int .u16 0, .int .u16 0, .int .u16 0, .int .u16 0, .int .u16 0, .int .u16 0, .int .u16 0, .int .u16 0, .int .u16 0, .int .u16 0, .int .u16 0, .int .u16 0, .int .u16 0, .int .u16 0, .int .u16 0, .int .u16 0, .int .u16 0, .int .u16 0, .int .u16 0, .int .u16 0, .int .u16 0, .int .u16 0, .int .u16 0, .int .u16 0, .int .u16 0, .int .u16 0, .int .u16 0, .int .u16 0, .int .u16 0, .int .u16 0, .int .u16 0, .int .u16 0, .int .u16 0, .int .u16 0, .int .u16 0, .int .u16 0, .int .u16 0, .int .u16 0, .int .u16 0, .int .u16 0, .int .u16 0] := by kernel_rfl
theorem tZ_44 : Tryd.prog.cellsOf 44 = 64 := by kernel_rfl
instance : SzD Tryd.prog 44 64 := ⟨tZ_44⟩
theorem JC : tArr Tryd.prog 44 64 42 1 = true := by kernel_rfl
theorem XG : tAgg Tryd.prog 44 64 = true := by kernel_rfl
theorem tI3 : tInt Tryd.prog 3 .i64 = true := by kernel_rfl
theorem Zcq : tInt Tryd.prog 42 .u16 = true := by kernel_rfl
theorem Zau : tScal Tryd.prog 42 = true := by kernel_rfl
theorem Zkz : tArr Tryd.prog 139 4 3 1 = true := by kernel_rfl
theorem Zlo : Xq Tryd.prog 139 = some [.int .i64 0, .int .i64 0, .int .i64 0, .int .i64 0] := by kernel_rfl
theorem ZcM : Xq Tryd.prog 60 = some [.int .i64 0, .int .i64 0, .slice none 0 0, .slice none 0 0, .slice none 0 0] := by kernel_rfl
theorem tZ_60 : Tryd.prog.cellsOf 60 = 5 := by kernel_rfl
instance : SzD Tryd.prog 60 5 := ⟨tZ_60⟩
theorem Zgt : Zbu Tryd.prog 60 = some [(0, 1), (1, 1), (2, 1), (3, 1), (4, 1)] := by kernel_rfl
theorem ZgE : ZdR Tryd.prog 60 = true := by kernel_rfl
theorem XT : tAgg Tryd.prog 60 5 = true := by kernel_rfl
theorem tZ_4 : Tryd.prog.cellsOf 4 = 1 := by kernel_rfl
instance : SzD Tryd.prog 4 1 := ⟨tZ_4⟩
theorem ZgZ : tSl Tryd.prog 58 4 1 1 = true := by kernel_rfl
theorem tZ4 : Xq Tryd.prog 4 = some [.bool false] := by kernel_rfl
theorem ZE : tFld Tryd.prog 60 2 2 = true := by kernel_rfl
theorem Z4 : tScal Tryd.prog 57 = true := by kernel_rfl
theorem Qk : tSl Tryd.prog 29 5 1 1 = true := by kernel_rfl
theorem tZ_5 : Tryd.prog.cellsOf 5 = 1 := by kernel_rfl
instance : SzD Tryd.prog 5 1 := ⟨tZ_5⟩
theorem Zjl : tInt Tryd.prog 104 .u64 = true := by kernel_rfl
theorem tZ5 : Xq Tryd.prog 5 = some [.int .u8 0] := by kernel_rfl
theorem ZU : tSl Tryd.prog 57 29 1 24 = true := by kernel_rfl
theorem tZ_29 : Tryd.prog.cellsOf 29 = 1 := by kernel_rfl
instance : SzD Tryd.prog 29 1 := ⟨tZ_29⟩
theorem Zcj : tSl Tryd.prog 34 60 5 88 = true := by kernel_rfl
theorem ZgS : tFld Tryd.prog 60 0 0 = true := by kernel_rfl
theorem ZiD : tFld Tryd.prog 60 1 1 = true := by kernel_rfl
theorem ZeH : tFld Tryd.prog 60 3 3 = true := by kernel_rfl
theorem Zis : tScal Tryd.prog 22 = true := by kernel_rfl
theorem Zfr : tFld Tryd.prog 60 4 4 = true := by kernel_rfl
theorem Zip : tScal Tryd.prog 58 = true := by kernel_rfl
theorem Zf5 : tScal Tryd.prog 29 = true := by kernel_rfl
theorem Zli : Zbu Tryd.prog 80 = some [(0, 2), (2, 1), (3, 1), (4, 1), (5, 1), (6, 1)] := by kernel_rfl
theorem Zlh : ZdR Tryd.prog 80 = true := by kernel_rfl
theorem Zly : Xq Tryd.prog 80 = some [.slice none 0 0, .slice none 0 0, .int .i64 0, .bool false, .bool false, .int .i64 0, .bool false] := by kernel_rfl
theorem Zlw : tAgg Tryd.prog 80 7 = true := by kernel_rfl
theorem ZkV : (match Tryd.prog.underlying 29 with | some (.slice _) => true | _ => false) = true := by kernel_rfl
theorem Zk6 : (match Tryd.prog.underlying 22 with | some (.slice _) => true | _ => false) = true := by kernel_rfl
theorem ZkK : (match Tryd.prog.underlying 58 with | some (.slice _) => true | _ => false) = true := by kernel_rfl
theorem ZdG : tFld Tryd.prog 80 0 0 = true := by kernel_rfl
theorem ZcZ : tFld Tryd.prog 78 0 0 = true := by kernel_rfl
theorem ZhI : tScal Tryd.prog 34 = true := by kernel_rfl
theorem Zjb : Xq Tryd.prog 83 = some [.int .i64 0, .int .i64 0] := by kernel_rfl
theorem tZ_83 : Tryd.prog.cellsOf 83 = 2 := by kernel_rfl
instance : SzD Tryd.prog 83 2 := ⟨tZ_83⟩
theorem ZlA : Xq Tryd.prog 96 = some [.nilFunc] := by kernel_rfl
theorem tZ_96 : Tryd.prog.cellsOf 96 = 1 := by kernel_rfl
instance : SzD Tryd.prog 96 1 := ⟨tZ_96⟩
theorem ZkY : tScal Tryd.prog 96 = true := by kernel_rfl
theorem ZgL : tArr Tryd.prog 184 16 5 1 = true := by kernel_rfl
theorem tS5 : tScal Tryd.prog 5 = true := by kernel_rfl
theorem tI5 : tInt Tryd.prog 5 .u8 = true := by kernel_rfl
theorem tS4 : tScal Tryd.prog 4 = true := by kernel_rfl
theorem ZjO : Zbu Tryd.prog 83 = some [(0, 1), (1, 1)] := by kernel_rfl
theorem ZjF : ZdR Tryd.prog 83 = true := by kernel_rfl
theorem ZhG : tAgg Tryd.prog 83 2 = true := by kernel_rfl
theorem ZfJ : tFld Tryd.prog 83 0 0 = true := by kernel_rfl
theorem ZiS : tArr Tryd.prog 183 97 5 1 = true := by kernel_rfl
theorem ZgF : tFld Tryd.prog 83 1 1 = true := by kernel_rfl
theorem Zey : tFld Tryd.prog 78 1 1 = true := by kernel_rfl
theorem Zix : tScal Tryd.prog 76 = true := by kernel_rfl
theorem Ziv : tSl Tryd.prog 76 83 2 16 = true := by kernel_rfl
theorem ZiG : tFld Tryd.prog 80 2 3 = true := by kernel_rfl
theorem tZ_80 : Tryd.prog.cellsOf 80 = 7 := by kernel_rfl
instance : SzD Tryd.prog 80 7 := ⟨tZ_80⟩
theorem ZjH : tFld Tryd.prog 80 3 4 = true := by kernel_rfl
theorem ZgD : Zbu Tryd.prog 114 = some [(0, 1), (1, 1)] := by kernel_rfl
theorem Zgx : ZdR Tryd.prog 114 = true := by kernel_rfl
theorem Zif : Xq Tryd.prog 114 = some [.int .i64 0, .int .i64 0] := by kernel_rfl
theorem ZfI : tSl Tryd.prog 86 114 2 16 = true := by kernel_rfl
theorem tZ_114 : Tryd.prog.cellsOf 114 = 2 := by kernel_rfl
instance : SzD Tryd.prog 114 2 := ⟨tZ_114⟩
theorem Zlj : tArr Tryd.prog 115 4 42 1 = true := by kernel_rfl
theorem Zko : tStr Tryd.prog 9 = true := by kernel_rfl
theorem tB4 : (match Tryd.prog.underlying 4 with | some .bool => true | _ => false) = true := by kernel_rfl
theorem ZkO : tFld Tryd.prog 80 1 2 = true := by kernel_rfl
theorem Zkx : Xq Tryd.prog 109 = some [.int .u8 0, .int .u8 0, .int .u8 0, .int .u8 0, .int .u8 0, .int .u8 0, .int .u8 0, .int .u8 0, .int .u8 0, .int .u8 0, .int .u8 0, .int .u8 0, .int .u8 0, .int .u8 0, .int .u8 0, .int .u8 0, .int .u8 0, .int .u8 0, .int .u8 0, .int .u8 0, .int .u8 0, .int .u8 0, .int .u8 0, .int .u8 0, .int .u8 0, .int .u8 0, .int .u8 0, .int .u8 0, .int .u8 0, .int .u8 0, .int .u8 0, .int .u8 0, .int .u8 0, .int .u8 0, .int .u8 0, .int .u8 0, .int .u8 0, .int .u8 0, .int .u8 0, .int .u8 0, .int .u8 0, .int .u8 0, .int .u8 0, .int .u8 0, .int .u8 0, .int .u8 0, .int .u8 0, .int .u8 0, .int .u8 0, .int .u8 0, .int .u8 0, .int .u8 0, .int .u8 0, .int .u8 0, .int .u8 0, .int .u8 0, .int .u8 0, .int .u8 0, .int .u8 0, .int .u8 0, .int .u8 0, .int .u8 0, .int .u8 0, .int .u8 0, .int .u8 0, .int .u8 0, .int .u8 0, .int .u8 0, .int .u8 0, .int .u8 0, .int .u8 0, .int .u8 0, .int .u8 0, .int .u8 0, .int .u8 0, .int .u8 0, .int .u8 0, .int .u8 0, .int .u8 0, .int .u8 0, .int .u8 0, .int .u8 0, .int .u8 0, .int .u8 0, .int .u8 0, .int .u8 0, .int .u8 0, .int .u8 0, .int .u8 0, .int .u8 0, .int .u8 0, .int .u8 0, .int .u8 0, .int .u8 0, .int .u8 0, .int .u8 0] := by kernel_rfl
theorem tZ_109 : Tryd.prog.cellsOf 109 = 96 := by kernel_rfl
instance : SzD Tryd.prog 109 96 := ⟨tZ_109⟩
theorem Zcv : tArr Tryd.prog 109 96 5 1 = true := by kernel_rfl
theorem Zk2 : tFld Tryd.prog 80 4 5 = true := by kernel_rfl
theorem ZkS : tFld Tryd.prog 80 5 6 = true := by kernel_rfl
theorem Zkr : tAgg Tryd.prog 109 96 = true := by kernel_rfl
theorem Zls : Zbu Tryd.prog 51 = some [(0, 1), (1, 1), (2, 1), (3, 1), (4, 64)] := by kernel_rfl
theorem Zlg : ZdR Tryd.prog 51 = true := by kernel_rfl
theorem ZkD : Xq Tryd.prog 51 = some ([.int .i64 0, .int .i64 0, .int .i64 0, .int .i64 0] ++ (List.flatten (List.replicate 64 [.int .u16 0]))) := by kernel_rfl
theorem Zkd : tSl Tryd.prog 36 51 68 160 = true := by kernel_rfl
theorem tZ_51 : Tryd.prog.cellsOf 51 = 68 := by kernel_rfl
instance : SzD Tryd.prog 51 68 := ⟨tZ_51⟩
theorem ZiX : tMap Tryd.prog 97 3 51 = true := by kernel_rfl
theorem Zkw : ZiM Tryd.prog 51 = some (.agg (([.int .i64 0, .int .i64 0, .int .i64 0, .int .i64 0] ++ (List.flatten (List.replicate 64 [.int .u16 0]))) : List Value).toArray) := by kernel_rfl
theorem Zkm : tAgg Tryd.prog 51 68 = true := by kernel_rfl
theorem Zju : tFld Tryd.prog 51 4 4 = true := by kernel_rfl
theorem Zjh : tFld Tryd.prog 51 2 2 = true := by kernel_rfl
theorem tZ_97 : Tryd.prog.cellsOf 97 = 1 := by kernel_rfl
instance : SzD Tryd.prog 97 1 := ⟨tZ_97⟩
theorem Zka : ZjD Tryd.prog 51 4 4 44 64 = true := by kernel_rfl
theorem Zj4 : tSl Tryd.prog 63 44 64 128 = true := by kernel_rfl
def gl0 : Gl := ⟨1, [(0, (gv_frame_syncs.toList.map fun z => Value.int .u16 z).toArray)]⟩
def R3 (x : Int) : List AV := [.int .i64 x]
theorem D3 (x : Int) : (R3 x).length = Tryd.prog.cellsOf 3 ∧ (R3 x).all datB = true := ⟨tZ_3.symm, rfl⟩
instance : RowD Tryd.prog 3 R3 := ⟨D3⟩
def C42 (x : Int) : AV := .int .u16 x
def C3 (x : Int) : AV := .int .i64 x
def R4 (x : Bool) : List AV := [.bool x]
theorem D4 (x : Bool) : (R4 x).length = Tryd.prog.cellsOf 4 ∧ (R4 x).all datB = true := ⟨tZ_4.symm, rfl⟩
instance : RowD Tryd.prog 4 R4 := ⟨D4⟩
def R5 (x : Int) : List AV := [.int .u8 x]
def C5 (x : Int) : AV := .int .u8 x
theorem D5 (x : Int) : (R5 x).length = Tryd.prog.cellsOf 5 ∧ (R5 x).all datB = true := ⟨tZ_5.symm, rfl⟩
instance : RowD Tryd.prog 5 R5 := ⟨D5⟩
def R29 (x : List Int) : List AV := [.sl 5 (List.map R5 x)]
theorem D29 (x : List Int) : (R29 x).length = Tryd.prog.cellsOf 29 ∧ (R29 x).all datB = true := ⟨tZ_29.symm, rfl⟩
instance : RowD Tryd.prog 29 R29 := ⟨D29⟩
theorem DR5 (x : Int) : (R5 x).length = Tryd.prog.cellsOf 5 ∧ ZbR Tryd.prog (R5 x) := ⟨(D5 x).1, dlF rfl⟩
def O29 (x : List Int) : List AV := [.osub 5 (List.map R5 x)]
theorem Q8 (x : List Int) : (O29 x).length = Tryd.prog.cellsOf 29 ∧ ZbR Tryd.prog (O29 x) := ⟨tZ_29.symm, dlC (dcS DR5) <| dlN⟩
theorem ZkZ (x : List Int) : Pw (MeltC Tryd.prog) (O29 x) (R29 x) := .cons (mcS DR5 (fun x => (D5 x).1) (fun _ => mcF rfl)) <| .nil
def R60 (x : api_Memory) : List AV := [.int .i64 x.Slots, .int .i64 x.Limit, .sl 29 (List.map R29 x.Sectors), .sl 3 (List.map R3 x.Wear), .sl 4 (List.map R4 x.Bad)]
theorem D60 (x : api_Memory) : (R60 x).length = Tryd.prog.cellsOf 60 ∧ (R60 x).all datB = true := ⟨tZ_60.symm, rfl⟩
instance : RowD Tryd.prog 60 R60 := ⟨D60⟩
theorem DR3 (x : Int) : (R3 x).length = Tryd.prog.cellsOf 3 ∧ ZbR Tryd.prog (R3 x) := ⟨(D3 x).1, dlF rfl⟩
theorem DR4 (x : Bool) : (R4 x).length = Tryd.prog.cellsOf 4 ∧ ZbR Tryd.prog (R4 x) := ⟨(D4 x).1, dlF rfl⟩
def O60 (x : api_Memory) : List AV := [.int .i64 x.Slots, .int .i64 x.Limit, .osub 29 (List.map O29 x.Sectors), .osub 3 (List.map R3 x.Wear), .osub 4 (List.map R4 x.Bad)]
theorem Q9 (x : api_Memory) : (O60 x).length = Tryd.prog.cellsOf 60 ∧ ZbR Tryd.prog (O60 x) := ⟨tZ_60.symm, dlC (.flat rfl) <| dlC (.flat rfl) <| dlC (dcS Q8) <| dlC (dcS DR3) <| dlC (dcS DR4) <| dlN⟩
theorem Zir (x : api_Memory) : Pw (MeltC Tryd.prog) (O60 x) (R60 x) := .cons (.dat rfl) <| .cons (.dat rfl) <| .cons (mcS Q8 (fun x => (D29 x).1) ZkZ) <| .cons (mcS DR3 (fun x => (D3 x).1) (fun _ => mcF rfl)) <| .cons (mcS DR4 (fun x => (D4 x).1) (fun _ => mcF rfl)) <| .nil
def R83 (x : ring_spot) : List AV := [.int .i64 x.sector, .int .i64 x.slot]
theorem D83 (x : ring_spot) : (R83 x).length = Tryd.prog.cellsOf 83 ∧ (R83 x).all datB = true := ⟨tZ_83.symm, rfl⟩
instance : RowD Tryd.prog 83 R83 := ⟨D83⟩
def R114 (x : api_Flaw) : List AV := [.int .i64 x.Word, .int .i64 x.Kind]
theorem D114 (x : api_Flaw) : (R114 x).length = Tryd.prog.cellsOf 114 ∧ (R114 x).all datB = true := ⟨tZ_114.symm, rfl⟩
instance : RowD Tryd.prog 114 R114 := ⟨D114⟩
theorem at1 {a0 : AV} {a1 : AV} {a2 : AV} {a3 : AV} {v4 : Vector Int 64} : At ((a0) :: (a1) :: (a2) :: (a3) :: ((List.map C42 v4.toList) ++ ([]))) 0 1 ([a0]) := at0 (hdc (n := 0) hd0)
theorem pt2 {a0 : AV} {a1 : AV} {a2 : AV} {a3 : AV} {v4 : Vector Int 64} {b0 : AV} : Put ((a0) :: (a1) :: (a2) :: (a3) :: ((List.map C42 v4.toList) ++ ([]))) 0 ([b0]) ((b0) :: (a1) :: (a2) :: (a3) :: ((List.map C42 v4.toList) ++ ([]))) := Zj9
theorem at3 {a0 : AV} {a1 : AV} {a2 : AV} {a3 : AV} {v4 : Vector Int 64} : At ((a0) :: (a1) :: (a2) :: (a3) :: ((List.map C42 v4.toList) ++ ([]))) 1 1 ([a1]) := atc (o := 0) (at0 (hdc (n := 0) hd0))
theorem pt4 {a0 : AV} {a1 : AV} {a2 : AV} {a3 : AV} {v4 : Vector Int 64} {b1 : AV} : Put ((a0) :: (a1) :: (a2) :: (a3) :: ((List.map C42 v4.toList) ++ ([]))) 1 ([b1]) ((a0) :: (b1) :: (a2) :: (a3) :: ((List.map C42 v4.toList) ++ ([]))) := Zhb (o := 0) (Zj9)
theorem at5 {a0 : AV} {a1 : AV} {a2 : AV} {a3 : AV} {v4 : Vector Int 64} : At ((a0) :: (a1) :: (a2) :: (a3) :: ((List.map C42 v4.toList) ++ ([]))) 2 1 ([a2]) := atc (o := 1) (atc (o := 0) (at0 (hdc (n := 0) hd0)))
theorem pt6 {a0 : AV} {a1 : AV} {a2 : AV} {a3 : AV} {v4 : Vector Int 64} {b2 : AV} : Put ((a0) :: (a1) :: (a2) :: (a3) :: ((List.map C42 v4.toList) ++ ([]))) 2 ([b2]) ((a0) :: (a1) :: (b2) :: (a3) :: ((List.map C42 v4.toList) ++ ([]))) := Zhb (o := 1) (Zhb (o := 0) (Zj9))
theorem at7 {a0 : AV} {a1 : AV} {a2 : AV} {a3 : AV} {v4 : Vector Int 64} : At ((a0) :: (a1) :: (a2) :: (a3) :: ((List.map C42 v4.toList) ++ ([]))) 3 1 ([a3]) := atc (o := 2) (atc (o := 1) (atc (o := 0) (at0 (hdc (n := 0) hd0))))
theorem pt8 {a0 : AV} {a1 : AV} {a2 : AV} {a3 : AV} {v4 : Vector Int 64} {b3 : AV} : Put ((a0) :: (a1) :: (a2) :: (a3) :: ((List.map C42 v4.toList) ++ ([]))) 3 ([b3]) ((a0) :: (a1) :: (a2) :: (b3) :: ((List.map C42 v4.toList) ++ ([]))) := Zhb (o := 2) (Zhb (o := 1) (Zhb (o := 0) (Zj9)))
theorem at9 {a0 : AV} {a1 : AV} {a2 : AV} {a3 : AV} {v4 : Vector Int 64} : At ((a0) :: (a1) :: (a2) :: (a3) :: ((List.map C42 v4.toList) ++ ([]))) 4 64 ((List.map C42 v4.toList)) := atc (o := 3) (atc (o := 2) (atc (o := 1) (atc (o := 0) (at0 (hdw arL)))))
theorem Zlx {a0 : AV} {a1 : AV} {a2 : AV} {a3 : AV} {v4 : Vector Int 64} {w4 : Vector Int 64} : Put ((a0) :: (a1) :: (a2) :: (a3) :: ((List.map C42 v4.toList) ++ ([]))) 4 ((List.map C42 w4.toList)) ((a0) :: (a1) :: (a2) :: (a3) :: ((List.map C42 w4.toList) ++ ([]))) := Zhb (o := 3) (Zhb (o := 2) (Zhb (o := 1) (Zhb (o := 0) (Zlt (Eq.trans arL (Eq.symm arL))))))
theorem Zcn {a0 : AV} {a1 : AV} {a2 : AV} {a3 : AV} {v4 : Vector Int 64} : ((a0) :: (a1) :: (a2) :: (a3) :: ((List.map C42 v4.toList) ++ ([]))).length = 68 := lnC (n := 67) (lnC (n := 66) (lnC (n := 65) (lnC (n := 64) (lnA (m := 64) (n := 0) arL (lnN)))))
theorem Zek {x0 : Int} {x1 : Int} {x2 : Int} {x3 : Int} {v4 : Vector Int 64} : ((.int .i64 x0) :: (.int .i64 x1) :: (.int .i64 x2) :: (.int .i64 x3) :: ((List.map C42 v4.toList) ++ ([]))).all datB = true := alC rfl (alC rfl (alC rfl (alC rfl (alA (arD fun _ => rfl) (alN)))))
def R51 (x : api_Kept) : List AV := (.int .i64 x.Memory) :: (.int .i64 x.Sector) :: (.int .i64 x.Sequence) :: (.int .i64 x.Slot) :: ((List.map C42 x.Frame.toList) ++ ([]))
theorem Zk5 {x0 : Int} {x1 : Int} {x2 : Int} {x3 : Int} {v4 : Vector Int 64} : ((.int .i64 x0) :: (.int .i64 x1) :: (.int .i64 x2) :: (.int .i64 x3) :: ((List.map C42 v4.toList) ++ ([]))).all c1B = true := alC rfl (alC rfl (alC rfl (alC rfl (alA (arC fun _ => rfl) (alN)))))
theorem E51 (x : api_Kept) : (R51 x).all c1B = true := Zk5
theorem D51 (x : api_Kept) : (R51 x).length = Tryd.prog.cellsOf 51 ∧ (R51 x).all datB = true := ⟨Eq.trans (b := 68) Zcn tZ_51.symm, Zek⟩
instance : RowD Tryd.prog 51 R51 := ⟨D51⟩
def FK3 (x : Int) : AV := .int .i64 x
theorem ZkP : KeyOK Tryd.prog 3 FK3 kqI := Zj1 (fun _ => rfl) tI3
def Zd4 (x : api_Kept) : AV := .agg ((.int .i64 x.Memory) :: (.int .i64 x.Sector) :: (.int .i64 x.Sequence) :: (.int .i64 x.Slot) :: ((List.map C42 x.Frame.toList) ++ ([])))
theorem Zlv {x0 : Int} {x1 : Int} {x2 : Int} {x3 : Int} {v4 : Vector Int 64} : NS ((.int .i64 x0) :: (.int .i64 x1) :: (.int .i64 x2) :: (.int .i64 x3) :: ((List.map C42 v4.toList) ++ ([]))) := nsC rfl (nsC rfl (nsC rfl (nsC rfl (nsA (nsM fun _ => rfl) (nsR rfl)))))
def R44 (x : Vector Int 64) : List AV := (List.map C42 x.toList)
theorem E44 (x : Vector Int 64) : (R44 x).all c1B = true := (arC fun _ => rfl)
theorem D44 (x : Vector Int 64) : (R44 x).length = Tryd.prog.cellsOf 44 ∧ (R44 x).all datB = true := ⟨Eq.trans (b := 64) arL tZ_44.symm, (arD fun _ => rfl)⟩
instance : RowD Tryd.prog 44 R44 := ⟨D44⟩
theorem Zln : Zk3 Tryd.prog 44 ((List.replicate 64 ([.i .u16])).flatten) := ⟨by kernel_rfl, by kernel_rfl, by kernel_rfl⟩
theorem ZZ {n : Int} {low : Int} {high : Int} {r : Bool} (h : ZS n low high = some r) :
 CSpec Tryd.prog gl0 18 [.int .i64 n, .int .i64 low, .int .i64 high] (.bool r) := by
 unfold ZS at h
 replace h := Qa h
 refine So Tryd.func18 Y fun w0 A=>Tr<|Ra Y<|Za<|Tr<|Rm Y<|Rm Y<|R2 ZgC Y<|Rm Y<|Rq Y (.guarded ((decide (low ≤ n)) == true) Y Y Y Y fun h => Zc<|ov Y)<|Rq Y (.guarded ((decide (low ≤ n)) == true) Y Y Y Y fun h => Zc<|ov Y)<|Rq Y (.guarded ((decide (low ≤ n)) == true) Y Y Y Y fun h => ZgJ (ow Y h)<|ow Y h)<|Rq Y (ZbQ (ov Y) fun hp=>ow Y<|gT hp)<|Ra Y<|Za<|?_
 obtain rfl := rt h
 exact Zp (ZK Y (.one<|rb Y))
theorem Zf6 {number : Int} {memories : Int} {copies : Int} {r : (List Int)} (h : ZaM number memories copies = some r) :
 CSpec Tryd.prog gl0 19 [.int .i64 number, .int .i64 memories, .int .i64 copies] (.sl 3 (List.map R3 r)) := by
 unfold ZaM at h
 replace h := Qa h
 refine So Tryd.func19 Y fun w0 A=>Tr<|Ra Y<|Za<|K3 0 1 2 Y<|Tr<|Ra Y<|Za<|I1 (fun out=>⟨[(7, .own 0 out.length)], [some ⟨3, List.map R3 out⟩]⟩) h (fun h=>?_) fun out h=>?_
 ·
  refine Tr<|Rm Y<|Rm Y<|Za<|Zi<|?_
  obtain ⟨r1, hl1, ho1⟩ := Q2 h
  refine L2 (fun out2 i=>⟨[(0, .int .i64 number), (1, .int .i64 memories), (7, .own 0 out2.length), (9, .int .i64 copies), (10, .int .i64 i)], [some ⟨3, List.map R3 out2⟩]⟩) hl1 (ES [none]) fun n1 out2 i h=>?_
  unfold JW at h
  refine Tr<|R2 ZX Y<|Za<|Zj<|If h Y (fun h=>?_) fun h=>?_
  ·
   exact Zl<|Zj<|Zi<|K5 0 1 7 9 10 Y<|Tr<|Rm Y<|Ra Y<|Za<|K6 0 1 7 8 9 10 Y<|Zu<|Rm Y<|Rm Y<|Rm Y<|R2 ZN Y<|Rm Y<|bE h fun q h_q h=>Rq Y (JE (ov Y) (ov Y) h_q)<|R_q (.sl 3<|List.map R3 ([q] : List Int)) Y (XU Xt (.cons (cvs (ov Y)<|Zk Y) Y (.cons (.b Y) .nil) .nil) Y Y)<|bE h fun l h_l h=>Rx Y (QN (ov Y) (QR (ov Y) tZ_3) Xt Y Y Y (fun _=>Zb Y) Y h_l)<|Ra Y<|Za<|K5 0 1 7 9 10 Y<|Zu<|R2 ZN Y<|Rm Y<|Za<|⟨_, h, ES [some 0]⟩
  ·
   refine ZI<|?_
   replace h := lx h ▸ ho1
   exact ⟨_, h, ES [some 0]⟩
 ·
  refine Tr<|Rm Y<|Ra Y<|Za<|?_
  obtain rfl := rt h
  exact Zp (ZK Y (.one<|.tmp Y<|View.ownM Y Y D3))
theorem Zh9 {n : Int} {r : Bool} (h : ZdU n = some r) :
 CSpec Tryd.prog gl0 81 [.int .i64 n] (.bool r) := by
 unfold ZdU at h
 replace h := Qa h
 refine So Tryd.func81 Y fun w0 A=>Tr<|Ra Y<|Za<|K1 0 Y<|Tr<|Ra Y<|Za<|I1 (fun ones=>⟨[(3, .int .i64 ones)], []⟩) h (fun h=>?_) fun ones h=>?_
 ·
  refine Zi<|?_
  obtain ⟨r1, hl1, ho1⟩ := Q2 h
  refine L2 (fun n2 ones2=>⟨[(0, .int .i64 n2), (3, .int .i64 ones2)], []⟩) hl1 (ES []) fun n1 n2 ones2 h=>?_
  unfold Zcx at h
  refine Zj<|Tr<|Rm Y<|R2 Zcm Y<|Za<|K3 0 3 5 Y<|If h Y (fun h=>?_) fun h=>?_
  ·
   exact Zl<|Zj<|Zi<|K2 0 3 Y<|Zu<|Rm Y<|Rm Y<|bE h fun q h_q h=>Rq Y (JE (ov Y) (ov Y) h_q)<|R2 ZN Y<|Ra Y<|Za<|K2 0 3 Y<|Zu<|Rm Y<|bE h fun q2 h_q2 h=>Rq Y (ZeB (ov Y) (ov Y) h_q2)<|Ra Y<|Za<|⟨_, h, ES []⟩
  ·
   refine ZI<|?_
   replace h := lx h ▸ ho1
   exact ⟨_, h, ES []⟩
 ·
  refine Tr<|Rm Y<|bE h fun q3 h_q3 h=>Rq Y (JE (ov Y) (ov Y) h_q3)<|R2 Zbt Y<|Ra Y<|Za<|?_
  obtain rfl := rt h
  exact Zp (ZK Y (.one<|rb Y))
theorem ZbT {data : Int} {r : Int} (h : Zak data = some r) :
 CSpec Tryd.prog gl0 65 [.int .i64 data] (.int .i64 r) := by
 unfold Zak at h
 replace h := Qa h
 refine So Tryd.func65 Y fun w0 A=>Tr<|Ra Y<|Za<|Zj<|K1 0 Y<|Tr<|Rm Y<|bE h fun y h_y h=>Rq Y (Zq (Zh9 h_y)<|.cons (ov Y) (.b Y) .nil)<|Za<|K2 0 4 Y<|If h Y (fun h=>?_) fun h=>?_
 ·
  refine K1 0 Y<|Tr<|Rm Y<|Ra Y<|Za<|?_
  obtain rfl := rt h
  exact Zp (ZK Y (.one<|rb Y))
 ·
  refine Zl<|K1 0 Y<|Tr<|Rm Y<|R2 ZN Y<|Ra Y<|Za<|?_
  obtain rfl := rt h
  exact Zp (ZK Y (.one<|rb Y))
theorem ZfN {f : Vector Int 64} {r : Int} (h : JG f = some r) :
 CSpec Tryd.prog gl0 67 [.agg (List.map C42 f.toList)] (.int .i64 r) := by
 unfold JG at h
 replace h := Qa h
 refine So Tryd.func67 Y fun w0 A=>Tr<|Rq Y (ZcL (cva<|ov Y) arL tZ_44<|arD fun _ => Y)<|Ra Y<|Za<|K2 1 2 Y<|Tr<|bE h fun x h_x h=>Rq Y (Qx (ov Y) (ov Y) JC h_x)<|Rq Y (Zd (ov Y) Zau<|Qc<|QW (o := 0) (o' := ((Int.toNat 1) * 1)) (Zr arL)<|Q5 h_x)<|Rq Y (Qm (ov Y) Zcq tI3 Y)<|bE h fun q h_q h=>Rq Y (JE (ov Y) (ov Y) h_q)<|bE h fun x2 h_x2 h=>Rq Y (Qx (ov Y) (ov Y) JC h_x2)<|Rq Y (Zd (ov Y) Zau<|Qc<|QW (o := 0) (o' := ((Int.toNat 2) * 1)) (Zr arL)<|Q5 h_x2)<|Rq Y (Qm (ov Y) Zcq tI3 Y)<|bE h fun q2 h_q2 h=>Rq Y (JE (ov Y) (ov Y) h_q2)<|R2 Zfo Y<|R2 ZN Y<|Ra Y<|Za<|?_
 obtain rfl := rt h
 exact Zp (ZK Y (.one<|rb Y))
theorem ZgI {number : Int} {r : Int} (h : ZbB number = some r) :
 CSpec Tryd.prog gl0 66 [.int .i64 number] (.int .i64 r) := by
 unfold ZbB at h
 replace h := Qa h
 refine So Tryd.func66 Y fun w0 A=>Tr<|Ra Y<|Za<|Tr<|R_q (.agg<|List.map C3 (#v[583, 1464, 2631, 3512] : Vector Int 4).toList) Y (ZcT (ys := [_, _, _, _]) Zkz Zlo (.cons (cvs (ov Y)<|Zk Y)<|.cons (cvs (ov Y)<|Zk Y)<|.cons (cvs (ov Y)<|Zk Y)<|.cons (cvs (ov Y)<|Zk Y) .nil) Y)<|Rm Y<|bE h fun q h_q h=>Rq Y (JE (ov Y) (ov Y) h_q)<|bE h fun x h_x h=>Rq Y (Zho (ov Y) (ov Y) Zkz tS3 h_x)<|Ra Y<|Za<|?_
 obtain rfl := rt h
 exact Zp (ZK Y (.one<|rb Y))
theorem ZhY {f : Vector Int 64} {r : Int} (h : ZdA f = some r) :
 CSpec Tryd.prog gl0 68 [.agg (List.map C42 f.toList)] (.int .i64 r) := by
 unfold ZdA at h
 replace h := Qa h
 refine So Tryd.func68 Y fun w0 A=>Tr<|Rq Y (ZcL (cva<|ov Y) arL tZ_44<|arD fun _ => Y)<|Ra Y<|Za<|K1 1 Y<|Tr<|Ra Y<|Za<|I1 (fun x=>⟨[(3, .int .i64 x)], []⟩) h (fun h=>?_) fun x h=>?_
 ·
  refine Tr<|Ra Y<|Za<|Zi<|?_
  obtain ⟨r1, hl1, ho1⟩ := Q2 h
  refine L2 (fun x2 i=>⟨[(1, .rp (List.map C42 f.toList) 0), (3, .int .i64 x2), (4, .int .i64 i)], []⟩) hl1 (ES []) fun n1 x2 i h=>?_
  unfold Zcy at h
  refine Zj<|Tr<|Rm Y<|R2 ZgJ Y<|Za<|K4 1 3 4 6 Y<|If h Y (fun h=>?_) fun h=>?_
  ·
   exact Zl<|Zj<|Zi<|K3 1 3 4 Y<|Zu<|Rm Y<|Rm Y<|bE h fun x3 h_x3 h=>Rq Y (Qx (ov Y) (ov Y) JC h_x3)<|Rq Y (Zd (ov Y) Zau<|Qc<|QW (o := 0) (o' := (i.toNat * 1)) (Zr arL)<|Q5 h_x3)<|Rq Y (Qm (ov Y) Zcq tI3 Y)<|bE h fun q h_q h=>Rq Y (JE (ov Y) (ov Y) h_q)<|R2 Zhz Y<|Ra Y<|Za<|K3 1 3 4 Y<|Zu<|Rm Y<|R2 ZN Y<|Ra Y<|Za<|⟨_, h, ES []⟩
  ·
   refine ZI<|?_
   replace h := lx h ▸ ho1
   exact ⟨_, h, ES []⟩
 ·
  refine Tr<|Rm Y<|Ra Y<|Za<|?_
  obtain rfl := rt h
  exact Zp (ZK Y (.one<|rb Y))
theorem Zg0 {f : Vector Int 64} {r : Int} (h : Zce f = some r) :
 CSpec Tryd.prog gl0 82 [.agg (List.map C42 f.toList)] (.int .i64 r) := by
 unfold Zce at h
 replace h := Qa h
 refine So Tryd.func82 Y fun w0 A=>Tr<|Rq Y (ZcL (cva<|ov Y) arL tZ_44<|arD fun _ => Y)<|Ra Y<|Za<|K1 1 Y<|Tr<|Ra Y<|Za<|I1 (fun rest=>⟨[(3, .int .i64 rest)], []⟩) h (fun h=>?_) fun rest h=>?_
 ·
  refine Tr<|Ra Y<|Za<|Zi<|?_
  obtain ⟨r1, hl1, ho1⟩ := Q2 h
  refine L2 (fun rest2 i=>⟨[(1, .rp (List.map C42 f.toList) 0), (3, .int .i64 rest2), (4, .int .i64 i)], []⟩) hl1 (ES []) fun n1 rest2 i h=>?_
  unfold Zbm at h
  refine Zj<|Tr<|Rm Y<|R2 ZX Y<|Za<|K4 1 3 4 7 Y<|If h Y (fun h=>?_) fun h=>?_
  ·
   refine Zl<|Zj<|Zi<|K3 1 3 4 Y<|Tr<|Ra Y<|Za<|I1 (fun bit=>⟨[(1, .rp (List.map C42 f.toList) 0), (3, .int .i64 rest2), (4, .int .i64 i), (5, .int .i64 bit)], []⟩) h (fun h=>?_) fun bit h=>?_
   ·
    refine Tr<|Rm Y<|R2 ZX Y<|Za<|K5 1 3 4 5 11 Y<|If h Y (fun h=>?_) fun h=>?_
    ·
     exact K4 1 3 4 5 Y<|Zu<|Rm Y<|bE h fun q h_q h=>Rq Y (ZeB (ov Y) (ov Y) h_q)<|bE h fun x h_x h=>Rq Y (Qx (ov Y) (ov Y) JC h_x)<|Rq Y (Zd (ov Y) Zau<|Qc<|QW (o := 0) (o' := (q.toNat * 1)) (Zr arL)<|Q5 h_x)<|Rq Y (Qm (ov Y) Zcq tI3 Y)<|Rm Y<|bE h fun q2 h_q2 h=>Rq Y (JE (ov Y) (ov Y) h_q2)<|R2 Zgh Y<|bE h fun q3 h_q3 h=>Rq Y (ZbF (ov Y) (ov Y) h_q3)<|R2 Zac Y<|Ra Y<|Za<|⟨_, h, ES []⟩
    ·
     exact Zl<|⟨_, h, ES []⟩
   ·
    refine Tr<|Rm Y<|R2 Zfo Y<|Rm Y<|R2 ZN Y<|Ra Y<|Za<|K3 1 3 4 Y<|Tr<|Rm Y<|R2 ZgC Y<|Za<|K4 1 3 4 27 Y<|If h Y (fun h=>?_) fun h=>?_
    ·
     exact K3 1 3 4 Y<|Zu<|Rm Y<|R2 Zhz Y<|Ra Y<|Za<|K3 1 3 4 Y<|Zu<|Rm Y<|R2 ZN Y<|Ra Y<|Za<|⟨_, h, ES []⟩
    ·
     exact Zl<|K3 1 3 4 Y<|Zu<|Rm Y<|R2 ZN Y<|Ra Y<|Za<|⟨_, h, ES []⟩
  ·
   refine ZI<|?_
   replace h := lx h ▸ ho1
   exact ⟨_, h, ES []⟩
 ·
  refine Tr<|Rm Y<|Ra Y<|Za<|?_
  obtain rfl := rt h
  exact Zp (ZK Y (.one<|rb Y))
theorem Zgg {f : Vector Int 64} {r : (Vector Int 64)} (h : Zaq f = some r) :
 CSpec Tryd.prog gl0 69 [.agg (List.map C42 f.toList)] (.agg (List.map C42 r.toList)) := by
 unfold Zaq at h
 replace h := Qa h
 refine So Tryd.func69 Y fun w0 A=>Tr<|Rx Y (ZiR 0 Y (ov Y) XG arL)<|Rx Y (ZV (row := (List.map C42 (Vector.replicate 64 0).toList)) 1 Y ZeQ Y tZ_44)<|Za<|K2 1 2 Y<|Tr<|Rq Y (Qj (ov Y) Y Y Y XG (Qr<|Zr arL) arL (hns := (nsM fun _ => Y)))<|bE h fun y h_y h=>Rq Y (Zq (Zg0 h_y)<|.cons (ov Y) (.aggB<|arD fun _ => Y) .nil)<|Ra Y<|Za<|K3 1 2 3 Y<|Tr<|Rm Y<|bE h fun q h_q h=>Rq Y (ZeB (ov Y) (ov Y) h_q)<|bE h fun y2 h_y2 h=>Rq Y (Zq (ZbT h_y2)<|.cons (ov Y) (.b Y) .nil)<|Rq Y (Qm (ov Y) tI3 Zcq Y)<|Rm Y<|bE h fun q2 h_q2 h=>Rq Y (JE (ov Y) (ov Y) h_q2)<|bE h fun y3 h_y3 h=>Rq Y (Zq (ZbT h_y3)<|.cons (ov Y) (.b Y) .nil)<|Rq Y (Qm (ov Y) tI3 Zcq Y)<|bE h fun x h_x h=>Rq Y (X4 (ov Y) (ov Y) JC Y Y h_x)<|Rx Y (Zh (ov Y) (ov Y) (Ze Zau) Y Y Y (arB h_x) (Zb Y)<|arS h_x)<|bE h fun x2 h_x2 h=>Rq Y (X4 (ov Y) (ov Y) JC Y Y h_x2)<|Rx Y (Zh (ov Y) (ov Y) (Ze Zau) Y Y Y (arB h_x2) (Zb Y)<|arS h_x2)<|Za<|K2 1 2 Y<|Tr<|Rq Y (Qj (ov Y) Y Y Y XG (Qr<|Zr arL) arL (hns := (nsM fun _ => Y)))<|Rx Y (Zh (ov Y) (ov Y) (Zw XG arL) Y Y Y (Zad (Zr arL) arL) (Zb<|arC fun _ => Y)<|XO<|Eq.trans arL<|Eq.symm arL)<|Za<|?_
 obtain rfl := rt h
 exact Zp (ZK Y (.one<|.agg Y Y Y Y XG (Qr<|Zr arL) arL (pwB<|arD fun _ => Y) (hns := (nsM fun _ => Y))))
theorem ZgN {f : Vector Int 64} {r : (Vector Int 64)} (h : Zbw f = some r) :
 CSpec Tryd.prog gl0 40 [.agg (List.map C42 f.toList)] (.agg (List.map C42 r.toList)) := by
 unfold Zbw at h
 replace h := Qa h
 refine So Tryd.func40 Y fun w0 A=>Tr<|Rx Y (ZiR 0 Y (ov Y) XG arL)<|Rx Y (ZV (row := (List.map C42 (Vector.replicate 64 0).toList)) 1 Y ZeQ Y tZ_44)<|Za<|I1 (fun f2=>⟨[(1, .ptr 0 1 0 0), (2, .ptr 1 1 0 0)], [some ⟨44, [(List.map C42 f2.toList)]⟩, some ⟨44, [(List.map C42 (Vector.replicate 64 0).toList)]⟩]⟩) h (fun h=>?_) fun f2 h=>?_
 ·
  refine K2 1 2 Y<|Tr<|Ra Y<|Za<|Zi<|?_
  obtain ⟨r1, hl1, ho1⟩ := Q2 h
  refine L2 (fun f3 i=>⟨[(1, .ptr 0 1 0 0), (2, .ptr 1 1 0 0), (3, .int .i64 i)], [some ⟨44, [(List.map C42 f3.toList)]⟩, some ⟨44, [(List.map C42 (Vector.replicate 64 0).toList)]⟩]⟩) hl1 (ES [some 0, some 1]) fun n1 f3 i h=>?_
  unfold Zav at h
  refine Zj<|Tr<|Rm Y<|R2 ZgJ Y<|Za<|K4 1 2 3 5 Y<|If h Y (fun h=>?_) fun h=>?_
  ·
   exact Zl<|Zj<|Zi<|K3 1 2 3 Y<|Zu<|Rm Y<|Rm Y<|bE h fun x h_x h=>Rq Y (X4 (ov Y) (ov Y) JC Y Y h_x)<|Rq Y (Zs (ov Y) Y Y Y Zau<|Qc<|QW (o := 0) (o' := (i.toNat * 1)) (Zr arL)<|Q5 h_x)<|Rq Y (Qm (ov Y) Zcq tI3 Y)<|bE h fun q h_q h=>Rq Y (JE (ov Y) (ov Y) h_q)<|bE h fun y h_y h=>Rq Y (Zq (ZbT h_y)<|.cons (ov Y) (.b Y) .nil)<|Rq Y (Qm (ov Y) tI3 Zcq Y)<|bE h fun x2 h_x2 h=>Rq Y (X4 (ov Y) (ov Y) JC Y Y h_x2)<|Rx Y (Zh (ov Y) (ov Y) (Ze Zau) Y Y Y (arB h_x2) (Zb Y)<|arS h_x2)<|Za<|K3 1 2 3 Y<|Zu<|Rm Y<|R2 ZN Y<|Ra Y<|Za<|⟨_, h, ES [some 0, some 1]⟩
  ·
   refine ZI<|?_
   replace h := lx h ▸ ho1
   exact ⟨_, h, ES [some 0, some 1]⟩
 ·
  refine Tr<|Rq Y (Qj (ov Y) Y Y Y XG (Qr<|Zr arL) arL (hns := (nsM fun _ => Y)))<|bE h fun y2 h_y2 h=>Rq Y (Zq (ZfN h_y2)<|.cons (ov Y) (.aggB<|arD fun _ => Y) .nil)<|bE h fun y3 h_y3 h=>Rq Y (Zq (ZgI h_y3)<|.cons (ov Y) (.b Y) .nil)<|Rq Y (Qm (ov Y) tI3 Zcq Y)<|bE h fun x3 h_x3 h=>Rq Y (X4 (ov Y) (ov Y) JC Y Y h_x3)<|Rx Y (Zh (ov Y) (ov Y) (Ze Zau) Y Y Y (arB h_x3) (Zb Y)<|arS h_x3)<|Za<|K2 1 2 Y<|Tr<|Rq Y (Qj (ov Y) Y Y Y XG (Qr<|Zr arL) arL (hns := (nsM fun _ => Y)))<|bE h fun y4 h_y4 h=>Rq Y (Zq (ZhY h_y4)<|.cons (ov Y) (.aggB<|arD fun _ => Y) .nil)<|bE h fun y5 h_y5 h=>Rq Y (Zq (ZbT h_y5)<|.cons (ov Y) (.b Y) .nil)<|Rq Y (Qm (ov Y) tI3 Zcq Y)<|bE h fun x4 h_x4 h=>Rq Y (X4 (ov Y) (ov Y) JC Y Y h_x4)<|Rx Y (Zh (ov Y) (ov Y) (Ze Zau) Y Y Y (arB h_x4) (Zb Y)<|arS h_x4)<|Za<|K2 1 2 Y<|Tr<|Rq Y (Qj (ov Y) Y Y Y XG (Qr<|Zr arL) arL (hns := (nsM fun _ => Y)))<|bE h fun y6 h_y6 h=>Rq Y (Zq (Zgg h_y6)<|.cons (ov Y) (.aggB<|arD fun _ => Y) .nil)<|Rx Y (Zh (ov Y) (ov Y) (Zw XG arL) Y Y Y (Zad (Zr arL) arL) (Zb<|arC fun _ => Y)<|XO<|Eq.trans arL<|Eq.symm arL)<|Za<|?_
  obtain rfl := rt h
  exact Zp (ZK Y (.one<|.agg Y Y Y Y XG (Qr<|Zr arL) arL (pwB<|arD fun _ => Y) (hns := (nsM fun _ => Y))))
theorem Zh4 {number : Int} {data : List Int} {r : (Vector Int 64) × Int} (h : ZdJ number data = some r) :
 CSpec Tryd.prog gl0 21 [.int .i64 number, .sl 3 (List.map R3 data)] (.tuple [.agg (List.map C42 r.1.toList), .int .i64 r.2]) := by
 unfold ZdJ at h
 replace h := Qa h
 refine So Tryd.func21 Y fun w0 A=>Tr<|Rx Y (ZV (row := (List.map C42 (Vector.replicate 64 0).toList)) 0 Y ZeQ Y tZ_44)<|Ra Y<|Za<|Zj<|K3 0 1 4 Y<|Tr<|Rm Y<|R2 ZX Y<|Rm Y<|Rq Y (.guarded ((decide (number < 0)) == false) Y Y Y Y fun h => Zc<|ov Y)<|Rq Y (.guarded ((decide (number < 0)) == false) Y Y Y Y fun h => ZgC (ow Y h)<|ov Y)<|Rq Y (Zev (ov Y) fun hp=>ow Y<|gF hp)<|Za<|K4 0 1 4 14 Y<|If h Y (fun h=>?_) fun h=>?_
 ·
  refine K1 4 Y<|Tr<|R_q (.agg<|List.map C42 (#v[0, 0, 0, 0, 0, 0, 0, 0, 0, 0, 0, 0, 0, 0, 0, 0, 0, 0, 0, 0, 0, 0, 0, 0, 0, 0, 0, 0, 0, 0, 0, 0, 0, 0, 0, 0, 0, 0, 0, 0, 0, 0, 0, 0, 0, 0, 0, 0, 0, 0, 0, 0, 0, 0, 0, 0, 0, 0, 0, 0, 0, 0, 0, 0] : Vector Int 64).toList) Y (ZcT (ys := [_, _, _, _, _, _, _, _, _, _, _, _, _, _, _, _, _, _, _, _, _, _, _, _, _, _, _, _, _, _, _, _, _, _, _, _, _, _, _, _, _, _, _, _, _, _, _, _, _, _, _, _, _, _, _, _, _, _, _, _, _, _, _, _]) JC ZeQ .nil Y)<|Rx Y (Zh (ov Y) (ov Y) (Zw XG arL) Y Y Y (Zad (Zr arL) arL) (Zb<|arC fun _ => Y)<|XO<|Eq.trans arL<|Eq.symm arL)<|Ra Y<|Za<|?_
  obtain rfl := rt h
  exact Zp (ZK Y (.two (.agg Y Y Y Y XG (Qr<|Zr arL) arL (pwB<|arD fun _ => Y) (hns := (nsM fun _ => Y)))<|rb Y))
 ·
  refine Zl<|Zj<|K3 0 1 4 Y<|Tr<|Rm Y<|Rl tZ_3 Xt Y<|R2 XI Y<|Za<|K4 0 1 4 18 Y<|If h Y (fun h=>?_) fun h=>?_
  ·
   refine K1 4 Y<|Tr<|R_q (.agg<|List.map C42 (#v[0, 0, 0, 0, 0, 0, 0, 0, 0, 0, 0, 0, 0, 0, 0, 0, 0, 0, 0, 0, 0, 0, 0, 0, 0, 0, 0, 0, 0, 0, 0, 0, 0, 0, 0, 0, 0, 0, 0, 0, 0, 0, 0, 0, 0, 0, 0, 0, 0, 0, 0, 0, 0, 0, 0, 0, 0, 0, 0, 0, 0, 0, 0, 0] : Vector Int 64).toList) Y (ZcT (ys := [_, _, _, _, _, _, _, _, _, _, _, _, _, _, _, _, _, _, _, _, _, _, _, _, _, _, _, _, _, _, _, _, _, _, _, _, _, _, _, _, _, _, _, _, _, _, _, _, _, _, _, _, _, _, _, _, _, _, _, _, _, _, _, _]) JC ZeQ .nil Y)<|Rx Y (Zh (ov Y) (ov Y) (Zw XG arL) Y Y Y (Zad (Zr arL) arL) (Zb<|arC fun _ => Y)<|XO<|Eq.trans arL<|Eq.symm arL)<|Ra Y<|Za<|?_
   obtain rfl := rt h
   exact Zp (ZK Y (.two (.agg Y Y Y Y XG (Qr<|Zr arL) arL (pwB<|arD fun _ => Y) (hns := (nsM fun _ => Y)))<|rb Y))
  ·
   refine Zl<|K3 0 1 4 Y<|Tr<|R_q (.agg<|List.map C42 (#v[0, 0, 0, 0, 0, 0, 0, 0, 0, 0, 0, 0, 0, 0, 0, 0, 0, 0, 0, 0, 0, 0, 0, 0, 0, 0, 0, 0, 0, 0, 0, 0, 0, 0, 0, 0, 0, 0, 0, 0, 0, 0, 0, 0, 0, 0, 0, 0, 0, 0, 0, 0, 0, 0, 0, 0, 0, 0, 0, 0, 0, 0, 0, 0] : Vector Int 64).toList) Y (ZcT (ys := [_, _, _, _, _, _, _, _, _, _, _, _, _, _, _, _, _, _, _, _, _, _, _, _, _, _, _, _, _, _, _, _, _, _, _, _, _, _, _, _, _, _, _, _, _, _, _, _, _, _, _, _, _, _, _, _, _, _, _, _, _, _, _, _]) JC ZeQ .nil Y)<|Rx Y (ZV (row := (List.map C42 (Vector.replicate 64 0).toList)) 1 Y ZeQ Y tZ_44)<|Rx Y (Zh (ov Y) (ov Y) (Zw XG arL) Y Y Y (Zad (Zr arL) arL) (Zb<|arC fun _ => Y)<|XO<|Eq.trans arL<|Eq.symm arL)<|Za<|K4 0 1 4 6 Y<|Tr<|Rm Y<|bE h fun q h_q h=>Rq Y (JE (ov Y) (ov Y) h_q)<|Rq Y (Qm (ov Y) tI3 Zcq Y)<|Rm Y<|bE h fun q2 h_q2 h=>Rq Y (ZeB (ov Y) (ov Y) h_q2)<|Rq Y (Qm (ov Y) tI3 Zcq Y)<|bE h fun x h_x h=>Rq Y (X4 (ov Y) (ov Y) JC Y Y h_x)<|Rx Y (Zh (ov Y) (ov Y) (Ze Zau) Y Y Y (arB h_x) (Zb Y)<|arS h_x)<|bE h fun x2 h_x2 h=>Rq Y (X4 (ov Y) (ov Y) JC Y Y h_x2)<|Rx Y (Zh (ov Y) (ov Y) (Ze Zau) Y Y Y (arB h_x2) (Zb Y)<|arS h_x2)<|Za<|J1 (fun j => (.inr j)) (fun f=>⟨[(4, .ptr 0 1 0 0), (6, .ptr 1 1 0 0)], [some ⟨44, [(List.map C42 (Vector.replicate 64 0).toList)]⟩, some ⟨44, [(List.map C42 f.toList)]⟩]⟩) h (fun h=>?_) fun f h=>?_
   ·
    refine K3 1 4 6 Y<|Tr<|Rm Y<|Rl tZ_3 Xt Y<|Rm Y<|Za<|Zi<|?_
    obtain ⟨r1, hl1, ho1⟩ := Q2 h
    refine L2 (fun f2 i=>⟨[(4, .ptr 0 1 0 0), (6, .ptr 1 1 0 0), (29, .sl 3 (List.map R3 data)), (30, .int .i64 (data.length : Int)), (31, .int .i64 i)], [some ⟨44, [(List.map C42 (Vector.replicate 64 0).toList)]⟩, some ⟨44, [(List.map C42 f2.toList)]⟩]⟩) hl1 (ES [some 0, some 1]) fun n1 f2 i h=>?_
    unfold Zcz at h
    refine Tr<|R2 ZX Y<|Za<|Zj<|If h Y (fun h=>?_) fun h=>?_
    ·
     refine Zl<|Zj<|Zi<|K5 4 6 29 30 31 Y<|Tr<|Rm Y<|bE h fun x3 h_x3 h=>Rq Y (Z5 (ov Y) (ov Y) Xt h_x3)<|Rq Y (Zd (ov Y) tS3 Y)<|Ra Y<|Ra Y<|Za<|Zj<|K7 4 6 7 8 29 30 31 Y<|Tr<|Rm Y<|R2 ZX Y<|Rm Y<|Rq Y (.guarded ((decide (x3 < 0)) == false) Y Y Y Y fun h => Zc<|ov Y)<|Rq Y (.guarded ((decide (x3 < 0)) == false) Y Y Y Y fun h => Zcm (ow Y h)<|ov Y)<|Rq Y (Zev (ov Y) fun hp=>ow Y<|gF hp)<|Za<|K8 4 6 7 8 29 30 31 41 Y<|If h Y (fun h=>?_) fun h=>?_
     ·
      refine K1 4 Y<|Tr<|R_q (.agg<|List.map C42 (#v[0, 0, 0, 0, 0, 0, 0, 0, 0, 0, 0, 0, 0, 0, 0, 0, 0, 0, 0, 0, 0, 0, 0, 0, 0, 0, 0, 0, 0, 0, 0, 0, 0, 0, 0, 0, 0, 0, 0, 0, 0, 0, 0, 0, 0, 0, 0, 0, 0, 0, 0, 0, 0, 0, 0, 0, 0, 0, 0, 0, 0, 0, 0, 0] : Vector Int 64).toList) Y (ZcT (ys := [_, _, _, _, _, _, _, _, _, _, _, _, _, _, _, _, _, _, _, _, _, _, _, _, _, _, _, _, _, _, _, _, _, _, _, _, _, _, _, _, _, _, _, _, _, _, _, _, _, _, _, _, _, _, _, _, _, _, _, _, _, _, _, _]) JC ZeQ .nil Y)<|Rx Y (Zh (ov Y) (ov Y) (Zw XG arL) Y Y Y (Zad (Zr arL) arL) (Zb<|arC fun _ => Y)<|XO<|Eq.trans arL<|Eq.symm arL)<|Ra Y<|Za<|?_
      replace h := lx h ▸ ho1
      obtain rfl := rt h
      exact Zp (ZK Y (.two (.agg Y Y Y Y XG (Qr<|Zr arL) arL (pwB<|arD fun _ => Y) (hns := (nsM fun _ => Y)))<|rb Y))
     ·
      exact Zl<|K7 4 6 7 8 29 30 31 Y<|Zu<|Rm Y<|R2 ZN Y<|Rm Y<|Rq Y (Qm (ov Y) tI3 Zcq Y)<|bE h fun x4 h_x4 h=>Rq Y (X4 (ov Y) (ov Y) JC Y Y h_x4)<|Rx Y (Zh (ov Y) (ov Y) (Ze Zau) Y Y Y (arB h_x4) (Zb Y)<|arS h_x4)<|Za<|K5 4 6 29 30 31 Y<|Zu<|R2 ZN Y<|Rm Y<|Za<|⟨_, h, ES [some 0, some 1]⟩
    ·
     refine ZI<|?_
     replace h := lx h ▸ ho1
     exact ⟨_, h, ES [some 0, some 1]⟩
   ·
    replace h := elr h
    replace h := t1i h
    refine Tr<|Rq Y (Qj (ov Y) Y Y Y XG (Qr<|Zr arL) arL (hns := (nsM fun _ => Y)))<|bE h fun y h_y h=>Rq Y (Zq (ZgN h_y)<|.cons (ov Y) (.aggB<|arD fun _ => Y) .nil)<|Rx Y (Zh (ov Y) (ov Y) (Zw XG arL) Y Y Y (Zad (Zr arL) arL) (Zb<|arC fun _ => Y)<|XO<|Eq.trans arL<|Eq.symm arL)<|Ra Y<|Za<|?_
    obtain rfl := rt h
    exact Zp (ZK Y (.two (.agg Y Y Y Y XG (Qr<|Zr arL) arL (pwB<|arD fun _ => Y) (hns := (nsM fun _ => Y)))<|rb Y))
theorem ZJ {slots : Int} {r : Int} (h : QT slots = some r) :
 CSpec Tryd.prog gl0 42 [.int .i64 slots] (.int .i64 r) := by
 unfold QT at h
 replace h := Qa h
 refine So Tryd.func42 Y fun w0 A=>Tr<|Ra Y<|Za<|Tr<|Rm Y<|R2 Zfo Y<|R2 ZN Y<|Ra Y<|Za<|?_
 obtain rfl := rt h
 exact Zp (ZK Y (.one<|rb Y))
theorem Zg5 {x : Int} {y : Int} {r : Int × Int} (h : Zcg x y = some r) :
 CSpec Tryd.prog gl0 84 [.int .u64 x, .int .u64 y] (.tuple [.int .u64 r.1, .int .u64 r.2]) := by
 unfold Zcg at h
 replace h := Qa h
 refine So Tryd.func84 Y fun w0 A=>Tr<|Ra Y<|Ra Y<|Za<|K2 0 1 Y<|Tr<|Rm Y<|R2 Zac Y<|Ra Y<|Za<|K3 0 1 6 Y<|Tr<|Rm Y<|bE h fun q h_q h=>Rq Y (ZbF (ov Y) (ov Y) h_q)<|Ra Y<|Za<|K4 0 1 6 7 Y<|Tr<|Rm Y<|R2 Zac Y<|Ra Y<|Za<|K5 0 1 6 7 8 Y<|Tr<|Rm Y<|bE h fun q2 h_q2 h=>Rq Y (ZbF (ov Y) (ov Y) h_q2)<|Ra Y<|Za<|K6 0 1 6 7 8 9 Y<|Tr<|Rm Y<|Rm Y<|R2 Zfo Y<|Ra Y<|Za<|K7 0 1 6 7 8 9 10 Y<|Tr<|Rm Y<|Rm Y<|R2 Zfo Y<|Rm Y<|bE h fun q3 h_q3 h=>Rq Y (ZbF (ov Y) (ov Y) h_q3)<|R2 ZN Y<|Ra Y<|Za<|K6 0 1 6 7 9 11 Y<|Tr<|Rm Y<|R2 Zac Y<|Ra Y<|Za<|K7 0 1 6 7 9 11 12 Y<|Tr<|Rm Y<|bE h fun q4 h_q4 h=>Rq Y (ZbF (ov Y) (ov Y) h_q4)<|Ra Y<|Za<|K7 0 1 6 7 9 12 13 Y<|Tr<|Rm Y<|Rm Y<|Rm Y<|R2 Zfo Y<|R2 ZN Y<|Ra Y<|Za<|K6 0 1 7 9 12 13 Y<|Tr<|Rm Y<|Rm Y<|R2 Zfo Y<|Rm Y<|R2 ZN Y<|Rm Y<|bE h fun q5 h_q5 h=>Rq Y (ZbF (ov Y) (ov Y) h_q5)<|R2 ZN Y<|Ra Y<|Za<|K3 0 1 4 Y<|Tr<|Rm Y<|Rm Y<|R2 Zfo Y<|Ra Y<|Za<|?_
 obtain rfl := rt h
 exact Zp (ZK Y (.two (rb Y)<|rb Y))
theorem Zh1 {x : Int} {y : Int} {r : Int × Int} (h : ZdD x y = some r) :
 CSpec Tryd.prog gl0 70 [.int .u64 x, .int .u64 y] (.tuple [.int .u64 r.1, .int .u64 r.2]) := by
 unfold ZdD at h
 replace h := Qa h
 refine So Tryd.func70 Y fun w0 A=>Tr<|Ra Y<|Ra Y<|Za<|Zj<|Zkl<|Zl<|K2 0 1 Y<|Tr<|Rm Y<|Rm Y<|bE h fun y2 h_y2 h=>Rq Y (Zq (Zg5 h_y2)<|.cons (ov Y) (.b Y)<|.cons (ov Y) (.b Y) .nil)<|Rm Y<|Rq Y (Zn (ov Y) Y)<|Rq Y (Zn (ov Y) Y)<|Ra Y<|Ra Y<|Za<|K2 8 9 Y<|Tr<|Rm Y<|Rm Y<|Ra Y<|Ra Y<|Za<|?_
 obtain rfl := rt h
 exact Zp (ZK Y (.two (rb Y)<|rb Y))
theorem Zf {x : List Int} {count : Int} {r : (List Int)} (h : Qo x count = some r) :
 GSpec Tryd.prog gl0 41 [.sl 5 (List.map R5 x), .int .i64 count] [] (.own 0 r.length) [some ⟨5, List.map R5 r⟩] := by
 unfold Qo at h
 replace h := Qa h
 refine Qt (by kernel_rfl) Tryd.func41 Y Y<|?_
 intro w0 A W φ0
 refine Tr<|Ra Y<|Za<|Zj<|K2 0 1 Y<|Tr<|Rm Y<|R2 ZX Y<|Za<|K3 0 1 10 Y<|If h Y (fun h=>?_) fun h=>?_
 ·
  exact (Zh2 h).elim
 ·
  refine Zl<|K2 0 1 Y<|Tr<|Rm Y<|Rl tZ_5 Qk Y<|Rq Y (Qm (ov Y) tI3 Zjl Y)<|Rm Y<|Rq Y (Qm (ov Y) tI3 Zjl Y)<|bE h fun y h_y h=>Rq Y (Zq (Zh1 h_y)<|.cons (ov Y) (.b Y)<|.cons (ov Y) (.b Y) .nil)<|Rm Y<|Rq Y (Zn (ov Y) Y)<|Rq Y (Zn (ov Y) Y)<|Ra Y<|Ra Y<|Za<|Zj<|K3 0 5 6 Y<|Tr<|Rm Y<|R2 Zcm Y<|Rm Y<|Rq Y (.guarded ((decide (0 < y.1)) == false) Y Y Y Y fun h => Zc<|ov Y)<|Rq Y (.guarded ((decide (0 < y.1)) == false) Y Y Y Y fun h => Zcm (ow Y h)<|ov Y)<|Rq Y (Zev (ov Y) fun hp=>ow Y<|gF hp)<|Za<|K3 0 6 26 Y<|If h Y (fun h=>?_) fun h=>?_
  ·
   exact (Zh2 h).elim
  ·
   refine Zl<|K2 0 6 Y<|Tr<|Rm Y<|Rq Y (Qm (ov Y) Zjl tI3 Y)<|bE h fun l h_l h=>Rx Y (JR [none] (r := 0) (f := R5) (z0 := 0) Y (ov Y) (ov Y) Qk Y tZ5 Y Y h_l)<|Ra Y<|Za<|K2 0 7 Y<|Tr<|Rm Y<|Rm Y<|Rx Y (Zkb (f := R5) (g := C5) (xs := l) (ys := x) (ov Y) (QR (ov Y) tZ_5) Y Y (fun _=>Y) (fun _=>Y) (fun _=>Y) Qk)<|Ra Y<|Za<|I1 (fun newslice=>⟨[(7, .own 0 newslice.length)], [some ⟨5, List.map R5 newslice⟩]⟩) h (fun h=>?_) fun newslice h=>?_
   ·
    refine Zi<|?_
    obtain ⟨r1, hl1, ho1⟩ := Q2 h
    refine L2 (fun newslice2 n=>⟨[(7, .own 0 newslice2.length), (8, .int .i64 n)], [some ⟨5, List.map R5 newslice2⟩]⟩) hl1 (ES [some 0]<|sr 7 Y (Zen (Eq.symm<|(ZeV ..).trans Y) Y)<|sd 8 Y Y sn) fun n1 newslice2 n h=>?_
    unfold Qq at h
    refine Zj<|Tr<|Rm Y<|Rm Y<|Rq Y (Zc8 (ov Y) Y Y Qk)<|R2 ZX Y<|Za<|K3 7 8 37 Y<|If h Y (fun h=>?_) fun h=>?_
    ·
     exact Zl<|Zi<|K2 7 8 Y<|Qn (cw := md0) (by kernel_rfl)<|D1 1 Zc Y<|D1 2 Zc Y<|bE h fun u h_u h=>Dq 3 Y (ZkC (ov Y) Y Y Qk (oi<|ov Y) on h_u)<|D1 4 Zc Y<|D1 5 Zc Y<|bE h fun u2 h_u2 h=>Dq 6 Y (ZkC (ov Y) Y Y Qk on (oi<|ov Y) h_u2)<|ZY 0 _ Y (by kernel_rfl) Y Y (fun hp'=>Zc<|ov Y)<|Do 7 Y (Zkj (g := C5) (ov Y) (ov Y) Y Y (fun _=>Y) (fun _=>Y) (fun _=>Y) Qk (Zht h_u)<|Zht h_u2)<|D2 8 ZN Y<|D1 9 Qb Y<|Dd<|⟨_, h, ES [some 0]<|sr 7 Y (Zen (Eq.symm<|(Zgl (Zht h_u) (Zht h_u2)).trans Y) Y)<|sd 8 Y Y sn⟩
    ·
     refine ZI<|?_
     replace h := lx h ▸ ho1
     exact ⟨_, h, ES [some 0]⟩
   ·
    refine Tr<|Rm Y<|Ra Y<|Za<|?_
    obtain rfl := rt h
    exact Zp<|JJ [some 0] Y (.cons (.tmp Y) .nil) (.cons Y (roM D5) .nil) Y Y<|.own _ Y
theorem Ze5 {sectors : Int} {slots : Int} {limit : Int} {r : api_Memory × Int} (h : Jc sectors slots limit = some r) :
 CSpec Tryd.prog gl0 22 [.int .i64 sectors, .int .i64 slots, .int .i64 limit] (.tuple [.agg [.int .i64 r.1.Slots, .int .i64 r.1.Limit, .sl 29 (List.map R29 r.1.Sectors), .sl 3 (List.map R3 r.1.Wear), .sl 4 (List.map R4 r.1.Bad)], .int .i64 r.2]) := by
 unfold Jc at h
 replace h := Qa h
 refine So Tryd.func22 Y fun w0 A=>Tr<|Rx Y (ZV (row := [_, _, _, _, _]) 0 Y ZcM Y tZ_60)<|Ra Y<|Za<|Zj<|K4 0 1 2 6 Y<|Tr<|Rm Y<|bE h fun y h_y h=>Rq Y (Zq (ZZ h_y)<|.cons (ov Y) (.b Y)<|.cons (ov Y) (.b Y)<|.cons (ov Y) (.b Y) .nil)<|R1 Ji Y<|Rm Y<|Rq Y (.guarded ((!y) == false) Y Y Y Y fun h => Zc<|ov Y)<|bE h fun y2 h_y2 h=>Rq Y (.guarded ((!y) == false) Y Y Y Y fun h => Zq (ZZ<|gdT h_y2 h)<|.cons (ow Y h) (.b Y)<|.cons (ov Y) (.b Y)<|.cons (ov Y) (.b Y) .nil)<|Rq Y (.guarded ((!y) == false) Y Y Y Y fun h => Ji<|ow Y h)<|Rq Y (Zev (ov Y) fun hp=>ow Y<|gF hp)<|Rm Y<|Rq Y (.guarded (((!y) || (!y2)) == false) Y Y Y Y fun h => Zc<|ov Y)<|bE h fun y3 h_y3 h=>Rq Y (.guarded (((!y) || (!y2)) == false) Y Y Y Y fun h => Zq (ZZ<|gdT h_y3 h)<|.cons (ow Y h) (.b Y)<|.cons (ov Y) (.b Y)<|.cons (ov Y) (.b Y) .nil)<|Rq Y (.guarded (((!y) || (!y2)) == false) Y Y Y Y fun h => Ji<|ow Y h)<|Rq Y (Zev (ov Y) fun hp=>ow Y<|gF hp)<|Za<|K5 0 1 2 6 21 Y<|If h Y (fun h=>?_) fun h=>?_
 ·
  refine K1 6 Y<|Tr<|Rq Y (Xk (ys := [_, _, _, _, _]) Zgt ZgE ZcM .nil Y)<|Rx Y (Zh (ov Y) (ov Y) (Zw XT Y) Y Y Y (Nat.le_of_ble_eq_true Y) (Zb Y) Y)<|Ra Y<|Za<|?_
  obtain rfl := rt h
  exact Zp (ZK Y (.two (.agg Y Y Y Y XT Y Y<|.cons (Dat.view<|.b Y)<|.cons (Dat.view<|.b Y)<|.cons (View.nils 29)<|.cons (View.nils 3)<|.cons (View.nils 4) .nil)<|rb Y))
 ·
  refine Zl<|I2 (fun Wear Bad=>⟨[(0, .int .i64 sectors), (1, .int .i64 slots), (6, .ptr 0 1 0 0), (8, .ptr 1 1 0 0)], [some ⟨60, [[.int .i64 0, .int .i64 0, .nils, .nils, .nils]]⟩, some ⟨60, [[.int .i64 slots, .int .i64 limit, .nils, .own 2 Wear.length, .own 3 Bad.length]]⟩, some ⟨3, List.map R3 Wear⟩, some ⟨4, List.map R4 Bad⟩]⟩) h (fun h=>?_) fun Wear Bad h=>?_
  ·
   refine K4 0 1 2 6 Y<|Qn (cw := md0) (by kernel_rfl)<|ZY 0 _ Y (by kernel_rfl) Y Y (fun hp'=>Zc<|ov Y)<|ZY 1 _ Y (by kernel_rfl) Y Y (fun hp'=>Zc<|ov Y)<|ZY 2 _ Y (by kernel_rfl) Y Y (fun hp'=>Zc<|ov Y)<|ZY 4 _ Y (by kernel_rfl) Y Y (fun hp'=>Zc<|ov Y)<|bE h fun l h_l h=>bE h fun l2 h_l2 h=>Zit [3, 5, 7] (by kernel_rfl)<|.w Y Y Y (fun _=>Ext.app) (fun h=>by cases h) (JR [none] (r := 1) (f := R3) (z0 := 0) Y (ov Y) (ov Y) Xt Y tZ3 Y Y h_l) ?_<|.w Y Y Y (fun _=>Ext.app) (fun h=>by cases h) (JR [none] (r := 1) (f := R4) (z0 := false) Y (ov Y) (ov Y) ZgZ Y tZ4 Y Y h_l2) ?_<|.w Y Y Y (fun _=>Ext.app) (fun h=>by cases h) (ZV (row := [_, _, _, _, _]) 1 Y ZcM Y tZ_60) ?_ .nil
   ·
    refine ZiN 5 7 Y Y (by kernel_rfl) Y Y Y Y (fun _=>Ext.app) (fun _=>Ext.app) (fun h=>by cases h) (fun h=>by cases h) (JR [none] (r := 2) (f := R4) (z0 := false) Y (ov Y) (ov Y) ZgZ Y tZ4 Y Y h_l2) (ZV (row := [_, _, _, _, _]) 2 Y ZcM Y tZ_60) ?_ ?_
    ·
     exact ZY 6 _ Y (by kernel_rfl) Y Y (fun hp'=>Xk (ys := [_, _, _, _, _]) Zgt ZgE ZcM (.cons (cvs (ov Y)<|Zk Y)<|.cons (cvs (ov Y)<|Zk Y)<|.cons (cvs (ov Y)<|Zk Y)<|.cons (cvs (ov Y)<|Zk Y) .nil) Y)<|Jb 7 _ _ Y (by kernel_rfl) Y Y (fun _=>Ext.app) (fun h=>by cases h) (ZV (row := [_, _, _, _, _]) 3 Y ZcM Y tZ_60)<|Do 8 Y (Zh (ov Y) (ov Y) (Zw XT Y) Y Y Y (Nat.le_of_ble_eq_true Y) (Zb Y) Y)<|Dd<|⟨_, h, ES [some 0, some 3, some 1, some 2]⟩
    ·
     exact Jb 5 _ _ Y (by kernel_rfl) Y Y (fun _=>Ext.app) (fun h=>by cases h) (JR [none] (r := 3) (f := R4) (z0 := false) Y (ov Y) (ov Y) ZgZ Y tZ4 Y Y h_l2)<|Dq 6 Y (Xk (ys := [_, _, _, _, _]) Zgt ZgE ZcM (.cons (cvs (ov Y)<|Zk Y)<|.cons (cvs (ov Y)<|Zk Y)<|.cons (cvs (ov Y)<|Zk Y)<|.cons (cvs (ov Y)<|Zk Y) .nil) Y)<|Do 8 Y (Zh (ov Y) (ov Y) (Zw XT Y) Y Y Y (Nat.le_of_ble_eq_true Y) (Zb Y) Y)<|Dd<|⟨_, h, ES [some 0, some 2, some 1, some 3]⟩
   ·
    refine ZiN 3 7 Y Y (by kernel_rfl) Y Y Y Y (fun _=>Ext.app) (fun _=>Ext.app) (fun h=>by cases h) (fun h=>by cases h) (JR [none] (r := 2) (f := R3) (z0 := 0) Y (ov Y) (ov Y) Xt Y tZ3 Y Y h_l) (ZV (row := [_, _, _, _, _]) 2 Y ZcM Y tZ_60) ?_ ?_
    ·
     exact ZY 6 _ Y (by kernel_rfl) Y Y (fun hp'=>Xk (ys := [_, _, _, _, _]) Zgt ZgE ZcM (.cons (cvs (ov Y)<|Zk Y)<|.cons (cvs (ov Y)<|Zk Y)<|.cons (cvs (ov Y)<|Zk Y)<|.cons (cvs (ov Y)<|Zk Y) .nil) Y)<|Jb 7 _ _ Y (by kernel_rfl) Y Y (fun _=>Ext.app) (fun h=>by cases h) (ZV (row := [_, _, _, _, _]) 3 Y ZcM Y tZ_60)<|Do 8 Y (Zh (ov Y) (ov Y) (Zw XT Y) Y Y Y (Nat.le_of_ble_eq_true Y) (Zb Y) Y)<|Dd<|⟨_, h, ES [some 0, some 3, some 2, some 1]⟩
    ·
     exact Jb 3 _ _ Y (by kernel_rfl) Y Y (fun _=>Ext.app) (fun h=>by cases h) (JR [none] (r := 3) (f := R3) (z0 := 0) Y (ov Y) (ov Y) Xt Y tZ3 Y Y h_l)<|Dq 6 Y (Xk (ys := [_, _, _, _, _]) Zgt ZgE ZcM (.cons (cvs (ov Y)<|Zk Y)<|.cons (cvs (ov Y)<|Zk Y)<|.cons (cvs (ov Y)<|Zk Y)<|.cons (cvs (ov Y)<|Zk Y) .nil) Y)<|Do 8 Y (Zh (ov Y) (ov Y) (Zw XT Y) Y Y Y (Nat.le_of_ble_eq_true Y) (Zb Y) Y)<|Dd<|⟨_, h, ES [some 0, some 2, some 3, some 1]⟩
   ·
    refine ZiN 3 5 Y Y (by kernel_rfl) Y Y Y Y (fun _=>Ext.app) (fun _=>Ext.app) (fun h=>by cases h) (fun h=>by cases h) (JR [none] (r := 2) (f := R3) (z0 := 0) Y (ov Y) (ov Y) Xt Y tZ3 Y Y h_l) (JR [none] (r := 2) (f := R4) (z0 := false) Y (ov Y) (ov Y) ZgZ Y tZ4 Y Y h_l2) ?_ ?_
    ·
     exact Jb 5 _ _ Y (by kernel_rfl) Y Y (fun _=>Ext.app) (fun h=>by cases h) (JR [none] (r := 3) (f := R4) (z0 := false) Y (ov Y) (ov Y) ZgZ Y tZ4 Y Y h_l2)<|Dq 6 Y (Xk (ys := [_, _, _, _, _]) Zgt ZgE ZcM (.cons (cvs (ov Y)<|Zk Y)<|.cons (cvs (ov Y)<|Zk Y)<|.cons (cvs (ov Y)<|Zk Y)<|.cons (cvs (ov Y)<|Zk Y) .nil) Y)<|Do 8 Y (Zh (ov Y) (ov Y) (Zw XT Y) Y Y Y (Nat.le_of_ble_eq_true Y) (Zb Y) Y)<|Dd<|⟨_, h, ES [some 0, some 1, some 2, some 3]⟩
    ·
     exact Jb 3 _ _ Y (by kernel_rfl) Y Y (fun _=>Ext.app) (fun h=>by cases h) (JR [none] (r := 3) (f := R3) (z0 := 0) Y (ov Y) (ov Y) Xt Y tZ3 Y Y h_l)<|Dq 6 Y (Xk (ys := [_, _, _, _, _]) Zgt ZgE ZcM (.cons (cvs (ov Y)<|Zk Y)<|.cons (cvs (ov Y)<|Zk Y)<|.cons (cvs (ov Y)<|Zk Y)<|.cons (cvs (ov Y)<|Zk Y) .nil) Y)<|Do 8 Y (Zh (ov Y) (ov Y) (Zw XT Y) Y Y Y (Nat.le_of_ble_eq_true Y) (Zb Y) Y)<|Dd<|⟨_, h, ES [some 0, some 1, some 3, some 2]⟩
  ·
   refine I1 (fun Sectors=>⟨[(6, .ptr 0 1 0 0), (8, .ptr 1 1 0 0)], [some ⟨60, [[.int .i64 0, .int .i64 0, .nils, .nils, .nils]]⟩, some ⟨60, [[.int .i64 slots, .int .i64 limit, .own 2 Sectors.length, .own 3 Wear.length, .own 4 Bad.length]]⟩, some ⟨29, List.map O29 Sectors⟩, some ⟨3, List.map R3 Wear⟩, some ⟨4, List.map R4 Bad⟩]⟩) h (fun h=>?_) fun Sectors h=>?_
   ·
    refine Tr<|Rm Y<|Rm Y<|Za<|Zi<|?_
    obtain ⟨r1, hl1, ho1⟩ := Q2 h
    refine L2 (fun Sectors2 i=>⟨[(1, .int .i64 slots), (6, .ptr 0 1 0 0), (8, .ptr 1 1 0 0), (30, .int .i64 sectors), (31, .int .i64 i)], [some ⟨60, [[.int .i64 0, .int .i64 0, .nils, .nils, .nils]]⟩, some ⟨60, [[.int .i64 slots, .int .i64 limit, .own 2 Sectors2.length, .own 3 Wear.length, .own 4 Bad.length]]⟩, some ⟨29, List.map O29 Sectors2⟩, some ⟨3, List.map R3 Wear⟩, some ⟨4, List.map R4 Bad⟩]⟩) hl1 (ES [some 0, some 1, none, some 2, some 3]) fun n1 Sectors2 i h=>?_
    unfold Ja at h
    refine Tr<|R2 ZX Y<|Za<|Zj<|If h Y (fun h=>?_) fun h=>?_
    ·
     refine Zl<|I1 (fun Sectors3=>⟨[(1, .int .i64 slots), (6, .ptr 0 1 0 0), (8, .ptr 1 1 0 0), (30, .int .i64 sectors), (31, .int .i64 i)], [some ⟨60, [[.int .i64 0, .int .i64 0, .nils, .nils, .nils]]⟩, some ⟨60, [[.int .i64 slots, .int .i64 limit, .own 2 Sectors3.length, .own 3 Wear.length, .own 4 Bad.length]]⟩, some ⟨29, List.map O29 Sectors3⟩, some ⟨3, List.map R3 Wear⟩, some ⟨4, List.map R4 Bad⟩]⟩) h (fun h=>?_) fun Sectors3 h=>?_
     ·
      refine Zi<|K5 1 6 8 30 31 Y<|Qn (cw := ⟨true, false, [], [], []⟩) (by kernel_rfl)<|ZY 3 _ Y (by kernel_rfl) Y Y (fun hp'=>Zc<|ov Y)<|bE h fun y4 h_y4 h=>Zit [0, 2, 4] (by kernel_rfl)<|.q Y Y Y (Zg (ov Y) Y Y ZE) ?_<|.w Y Y Y (fun h=>by cases h) (fun h=>by cases h) (Xo<|XU Qk (.cons (cvs (ov Y)<|Zk Y) Y (.cons (.b Y) .nil) .nil) Y Y) ?_<|.w Y Y Y (fun h=>by cases h) (fun h=>by cases h) (Xo<|Zq (ZJ h_y4)<|.cons (ov Y) (.b Y) .nil) ?_ .nil
      ·
       refine Zit [1, 2, 4] (by kernel_rfl)<|.q Y Y Y (Zs (ov Y) Y Y Y Z4 Y) ?_<|.w Y Y Y (fun h=>by cases h) (fun h=>by cases h) (Xo<|XU Qk (.cons (cvs (ov Y)<|Zk Y) Y (.cons (.b Y) .nil) .nil) Y Y) ?_<|.w Y Y Y (fun h=>by cases h) (fun h=>by cases h) (Xo<|Zq (ZJ h_y4)<|.cons (ov Y) (.b Y) .nil) ?_ .nil
       ·
        refine ZiN 2 4 Y Y (by kernel_rfl) Y Y Y Y (fun h=>by cases h) (fun h=>by cases h) (fun h=>by cases h) (fun h=>by cases h) (Xo<|XU Qk (.cons (cvs (ov Y)<|Zk Y) Y (.cons (.b Y) .nil) .nil) Y Y) (Xo<|Zq (ZJ h_y4)<|.cons (ov Y) (.b Y) .nil) ?_ ?_
        ·
         exact Do 4 Y (Xo<|Zq (ZJ h_y4)<|.cons (ov Y) (.b Y) .nil)<|bE h fun y5 h_y5 h=>Do 5 Y (ZC [] (Zf h_y5) (.cons (ov Y) (.dat Y)<|.cons (ov Y) (.dat Y) .nil) .nil Y (.keep Y Y<|.keep Y Y<|.keep Y Y<|.keep Y Y<|.keep Y Y<|.lent 0 (.inr ⟨Nat.le_of_ble_eq_true Y, Y⟩) Y (roM D5) .nil) Y Y<|.own _<|.inr ⟨Nat.le_of_ble_eq_true Y, Y⟩)<|Do 6 Y (Qg (r := 6) Y ZU (.cons (cvs (ov Y)<|Zk Y) Y .nil) Y Y)<|bE h fun l3 h_l3 h=>Do 7 Y (ZD (f := O29) (ov Y) (ZO (o := ⟨29, [[.own 5 y5.length]]⟩) (ov Y) Y Y tZ_29) ZU Y Y (Zb Y) Y h_l3)<|Dq 8 Y (Zg (ov Y) Y Y ZE)<|Do 9 Y (Zh (ov Y) (ov Y) (Ze Z4) Y Y Y (Nat.le_of_ble_eq_true Y) (Zb Y) Y)<|ZQ (by kernel_rfl) (Ent.trans (Ent.absorbH (r := 2) (j := 0) (q := 5) Y (Zm h_l3) Y Y (List.length_map ..) Y)<|Ent.closeS (r := 2) Y (Zm h_l3) Y)<|⟨_, h, ES [some 0, some 1, some 2, some 3, some 4] (hhp := .cons Y (ro1 (by exact tZ_60.symm)<|rld Y)<|.cons Y (ro1 (by exact tZ_60.symm)<|rlc (.dat Y)<|rlc (.dat Y)<|rlc (.own _ Y)<|rlc (.own _ Y)<|rlc (.own _ Y) rln)<|.cons Y (roO Q8)<|.cons Y (roM D3)<|.cons Y (roM D4) .nil)⟩
        ·
         exact Jb 2 (.sl 5<|List.map R5 ([255] : List Int)) _ Y (by kernel_rfl) Y Y (fun h=>by cases h) (fun h=>by cases h) (Xo<|XU Qk (.cons (cvs (ov Y)<|Zk Y) Y (.cons (.b Y) .nil) .nil) Y Y)<|bE h fun y5 h_y5 h=>Do 5 Y (ZC [] (Zf h_y5) (.cons (ov Y) (.dat Y)<|.cons (ov Y) (.dat Y) .nil) .nil Y (.keep Y Y<|.keep Y Y<|.keep Y Y<|.keep Y Y<|.keep Y Y<|.lent 0 (.inr ⟨Nat.le_of_ble_eq_true Y, Y⟩) Y (roM D5) .nil) Y Y<|.own _<|.inr ⟨Nat.le_of_ble_eq_true Y, Y⟩)<|Do 6 Y (Qg (r := 6) Y ZU (.cons (cvs (ov Y)<|Zk Y) Y .nil) Y Y)<|bE h fun l3 h_l3 h=>Do 7 Y (ZD (f := O29) (ov Y) (ZO (o := ⟨29, [[.own 5 y5.length]]⟩) (ov Y) Y Y tZ_29) ZU Y Y (Zb Y) Y h_l3)<|Dq 8 Y (Zg (ov Y) Y Y ZE)<|Do 9 Y (Zh (ov Y) (ov Y) (Ze Z4) Y Y Y (Nat.le_of_ble_eq_true Y) (Zb Y) Y)<|ZQ (by kernel_rfl) (Ent.trans (Ent.absorbH (r := 2) (j := 0) (q := 5) Y (Zm h_l3) Y Y (List.length_map ..) Y)<|Ent.closeS (r := 2) Y (Zm h_l3) Y)<|⟨_, h, ES [some 0, some 1, some 2, some 3, some 4] (hhp := .cons Y (ro1 (by exact tZ_60.symm)<|rld Y)<|.cons Y (ro1 (by exact tZ_60.symm)<|rlc (.dat Y)<|rlc (.dat Y)<|rlc (.own _ Y)<|rlc (.own _ Y)<|rlc (.own _ Y) rln)<|.cons Y (roO Q8)<|.cons Y (roM D3)<|.cons Y (roM D4) .nil)⟩
       ·
        refine Dw 1 4 Y (Zs (ov Y) Y Y Y Z4 Y) (Xo<|Zq (ZJ h_y4)<|.cons (ov Y) (.b Y) .nil) ?_ ?_
        ·
         exact Do 4 Y (Xo<|Zq (ZJ h_y4)<|.cons (ov Y) (.b Y) .nil)<|bE h fun y5 h_y5 h=>Do 5 Y (ZC [] (Zf h_y5) (.cons (ov Y) (.dat Y)<|.cons (ov Y) (.dat Y) .nil) .nil Y (.keep Y Y<|.keep Y Y<|.keep Y Y<|.keep Y Y<|.keep Y Y<|.lent 0 (.inr ⟨Nat.le_of_ble_eq_true Y, Y⟩) Y (roM D5) .nil) Y Y<|.own _<|.inr ⟨Nat.le_of_ble_eq_true Y, Y⟩)<|Do 6 Y (Qg (r := 6) Y ZU (.cons (cvs (ov Y)<|Zk Y) Y .nil) Y Y)<|bE h fun l3 h_l3 h=>Do 7 Y (ZD (f := O29) (ov Y) (ZO (o := ⟨29, [[.own 5 y5.length]]⟩) (ov Y) Y Y tZ_29) ZU Y Y (Zb Y) Y h_l3)<|Dq 8 Y (Zg (ov Y) Y Y ZE)<|Do 9 Y (Zh (ov Y) (ov Y) (Ze Z4) Y Y Y (Nat.le_of_ble_eq_true Y) (Zb Y) Y)<|ZQ (by kernel_rfl) (Ent.trans (Ent.absorbH (r := 2) (j := 0) (q := 5) Y (Zm h_l3) Y Y (List.length_map ..) Y)<|Ent.closeS (r := 2) Y (Zm h_l3) Y)<|⟨_, h, ES [some 0, some 1, some 2, some 3, some 4] (hhp := .cons Y (ro1 (by exact tZ_60.symm)<|rld Y)<|.cons Y (ro1 (by exact tZ_60.symm)<|rlc (.dat Y)<|rlc (.dat Y)<|rlc (.own _ Y)<|rlc (.own _ Y)<|rlc (.own _ Y) rln)<|.cons Y (roO Q8)<|.cons Y (roM D3)<|.cons Y (roM D4) .nil)⟩
        ·
         refine bE h fun y5 h_y5 h=>Dw 1 5 Y (Zs (ov Y) Y Y Y Z4 Y) (ZC [] (Zf h_y5) (.cons (ov Y) (.dat Y)<|.cons (ov Y) (.dat Y) .nil) .nil Y (.keep Y Y<|.keep Y Y<|.keep Y Y<|.keep Y Y<|.keep Y Y<|.lent 0 (.inr ⟨Nat.le_of_ble_eq_true Y, Y⟩) Y (roM D5) .nil) Y Y<|.own _<|.inr ⟨Nat.le_of_ble_eq_true Y, Y⟩) ?_ ?_
         ·
          exact Do 5 Y (ZC [] (Zf h_y5) (.cons (ov Y) (.dat Y)<|.cons (ov Y) (.dat Y) .nil) .nil Y (.keep Y Y<|.keep Y Y<|.keep Y Y<|.keep Y Y<|.keep Y Y<|.lent 0 (.inr ⟨Nat.le_of_ble_eq_true Y, Y⟩) Y (roM D5) .nil) Y Y<|.own _<|.inr ⟨Nat.le_of_ble_eq_true Y, Y⟩)<|Do 6 Y (Qg (r := 6) Y ZU (.cons (cvs (ov Y)<|Zk Y) Y .nil) Y Y)<|bE h fun l3 h_l3 h=>Do 7 Y (ZD (f := O29) (ov Y) (ZO (o := ⟨29, [[.own 5 y5.length]]⟩) (ov Y) Y Y tZ_29) ZU Y Y (Zb Y) Y h_l3)<|Dq 8 Y (Zg (ov Y) Y Y ZE)<|Do 9 Y (Zh (ov Y) (ov Y) (Ze Z4) Y Y Y (Nat.le_of_ble_eq_true Y) (Zb Y) Y)<|ZQ (by kernel_rfl) (Ent.trans (Ent.absorbH (r := 2) (j := 0) (q := 5) Y (Zm h_l3) Y Y (List.length_map ..) Y)<|Ent.closeS (r := 2) Y (Zm h_l3) Y)<|⟨_, h, ES [some 0, some 1, some 2, some 3, some 4] (hhp := .cons Y (ro1 (by exact tZ_60.symm)<|rld Y)<|.cons Y (ro1 (by exact tZ_60.symm)<|rlc (.dat Y)<|rlc (.dat Y)<|rlc (.own _ Y)<|rlc (.own _ Y)<|rlc (.own _ Y) rln)<|.cons Y (roO Q8)<|.cons Y (roM D3)<|.cons Y (roM D4) .nil)⟩
         ·
          refine Dw 1 6 Y (Zs (ov Y) Y Y Y Z4 Y) (Qg (r := 6) Y ZU (.cons (cvs (ov Y)<|Zk Y) Y .nil) Y Y) ?_ ?_
          ·
           exact Do 6 Y (Qg (r := 6) Y ZU (.cons (cvs (ov Y)<|Zk Y) Y .nil) Y Y)<|bE h fun l3 h_l3 h=>Do 7 Y (ZD (f := O29) (ov Y) (ZO (o := ⟨29, [[.own 5 y5.length]]⟩) (ov Y) Y Y tZ_29) ZU Y Y (Zb Y) Y h_l3)<|Dq 8 Y (Zg (ov Y) Y Y ZE)<|Do 9 Y (Zh (ov Y) (ov Y) (Ze Z4) Y Y Y (Nat.le_of_ble_eq_true Y) (Zb Y) Y)<|ZQ (by kernel_rfl) (Ent.trans (Ent.absorbH (r := 2) (j := 0) (q := 5) Y (Zm h_l3) Y Y (List.length_map ..) Y)<|Ent.closeS (r := 2) Y (Zm h_l3) Y)<|⟨_, h, ES [some 0, some 1, some 2, some 3, some 4] (hhp := .cons Y (ro1 (by exact tZ_60.symm)<|rld Y)<|.cons Y (ro1 (by exact tZ_60.symm)<|rlc (.dat Y)<|rlc (.dat Y)<|rlc (.own _ Y)<|rlc (.own _ Y)<|rlc (.own _ Y) rln)<|.cons Y (roO Q8)<|.cons Y (roM D3)<|.cons Y (roM D4) .nil)⟩
          ·
           exact Dq 1 Y (Zs (ov Y) Y Y Y Z4 Y)<|bE h fun l3 h_l3 h=>Do 7 Y (ZD (f := O29) (ov Y) (ZO (o := ⟨29, [[.own 5 y5.length]]⟩) (ov Y) Y Y tZ_29) ZU Y Y (Zb Y) Y h_l3)<|Dq 8 Y (Zg (ov Y) Y Y ZE)<|Do 9 Y (Zh (ov Y) (ov Y) (Ze Z4) Y Y Y (Nat.le_of_ble_eq_true Y) (Zb Y) Y)<|ZQ (by kernel_rfl) (Ent.trans (Ent.absorbH (r := 2) (j := 0) (q := 5) Y (Zm h_l3) Y Y (List.length_map ..) Y)<|Ent.closeS (r := 2) Y (Zm h_l3) Y)<|⟨_, h, ES [some 0, some 1, some 2, some 3, some 4] (hhp := .cons Y (ro1 (by exact tZ_60.symm)<|rld Y)<|.cons Y (ro1 (by exact tZ_60.symm)<|rlc (.dat Y)<|rlc (.dat Y)<|rlc (.own _ Y)<|rlc (.own _ Y)<|rlc (.own _ Y) rln)<|.cons Y (roO Q8)<|.cons Y (roM D3)<|.cons Y (roM D4) .nil)⟩
       ·
        refine Dw 1 2 Y (Zs (ov Y) Y Y Y Z4 Y) (Xo<|XU Qk (.cons (cvs (ov Y)<|Zk Y) Y (.cons (.b Y) .nil) .nil) Y Y) ?_ ?_
        ·
         exact Jb 2 (.sl 5<|List.map R5 ([255] : List Int)) _ Y (by kernel_rfl) Y Y (fun h=>by cases h) (fun h=>by cases h) (Xo<|XU Qk (.cons (cvs (ov Y)<|Zk Y) Y (.cons (.b Y) .nil) .nil) Y Y)<|bE h fun y5 h_y5 h=>Do 5 Y (ZC [] (Zf h_y5) (.cons (ov Y) (.dat Y)<|.cons (ov Y) (.dat Y) .nil) .nil Y (.keep Y Y<|.keep Y Y<|.keep Y Y<|.keep Y Y<|.keep Y Y<|.lent 0 (.inr ⟨Nat.le_of_ble_eq_true Y, Y⟩) Y (roM D5) .nil) Y Y<|.own _<|.inr ⟨Nat.le_of_ble_eq_true Y, Y⟩)<|Do 6 Y (Qg (r := 6) Y ZU (.cons (cvs (ov Y)<|Zk Y) Y .nil) Y Y)<|bE h fun l3 h_l3 h=>Do 7 Y (ZD (f := O29) (ov Y) (ZO (o := ⟨29, [[.own 5 y5.length]]⟩) (ov Y) Y Y tZ_29) ZU Y Y (Zb Y) Y h_l3)<|Dq 8 Y (Zg (ov Y) Y Y ZE)<|Do 9 Y (Zh (ov Y) (ov Y) (Ze Z4) Y Y Y (Nat.le_of_ble_eq_true Y) (Zb Y) Y)<|ZQ (by kernel_rfl) (Ent.trans (Ent.absorbH (r := 2) (j := 0) (q := 5) Y (Zm h_l3) Y Y (List.length_map ..) Y)<|Ent.closeS (r := 2) Y (Zm h_l3) Y)<|⟨_, h, ES [some 0, some 1, some 2, some 3, some 4] (hhp := .cons Y (ro1 (by exact tZ_60.symm)<|rld Y)<|.cons Y (ro1 (by exact tZ_60.symm)<|rlc (.dat Y)<|rlc (.dat Y)<|rlc (.own _ Y)<|rlc (.own _ Y)<|rlc (.own _ Y) rln)<|.cons Y (roO Q8)<|.cons Y (roM D3)<|.cons Y (roM D4) .nil)⟩
        ·
         refine bE h fun y5 h_y5 h=>Dw 1 5 Y (Zs (ov Y) Y Y Y Z4 Y) (ZC [] (Zf h_y5) (.cons (ov Y) (.dat Y)<|.cons (ov Y) (.dat Y) .nil) .nil Y (.keep Y Y<|.keep Y Y<|.keep Y Y<|.keep Y Y<|.keep Y Y<|.lent 0 (.inr ⟨Nat.le_of_ble_eq_true Y, Y⟩) Y (roM D5) .nil) Y Y<|.own _<|.inr ⟨Nat.le_of_ble_eq_true Y, Y⟩) ?_ ?_
         ·
          exact Do 5 Y (ZC [] (Zf h_y5) (.cons (ov Y) (.dat Y)<|.cons (ov Y) (.dat Y) .nil) .nil Y (.keep Y Y<|.keep Y Y<|.keep Y Y<|.keep Y Y<|.keep Y Y<|.lent 0 (.inr ⟨Nat.le_of_ble_eq_true Y, Y⟩) Y (roM D5) .nil) Y Y<|.own _<|.inr ⟨Nat.le_of_ble_eq_true Y, Y⟩)<|Do 6 Y (Qg (r := 6) Y ZU (.cons (cvs (ov Y)<|Zk Y) Y .nil) Y Y)<|bE h fun l3 h_l3 h=>Do 7 Y (ZD (f := O29) (ov Y) (ZO (o := ⟨29, [[.own 5 y5.length]]⟩) (ov Y) Y Y tZ_29) ZU Y Y (Zb Y) Y h_l3)<|Dq 8 Y (Zg (ov Y) Y Y ZE)<|Do 9 Y (Zh (ov Y) (ov Y) (Ze Z4) Y Y Y (Nat.le_of_ble_eq_true Y) (Zb Y) Y)<|ZQ (by kernel_rfl) (Ent.trans (Ent.absorbH (r := 2) (j := 0) (q := 5) Y (Zm h_l3) Y Y (List.length_map ..) Y)<|Ent.closeS (r := 2) Y (Zm h_l3) Y)<|⟨_, h, ES [some 0, some 1, some 2, some 3, some 4] (hhp := .cons Y (ro1 (by exact tZ_60.symm)<|rld Y)<|.cons Y (ro1 (by exact tZ_60.symm)<|rlc (.dat Y)<|rlc (.dat Y)<|rlc (.own _ Y)<|rlc (.own _ Y)<|rlc (.own _ Y) rln)<|.cons Y (roO Q8)<|.cons Y (roM D3)<|.cons Y (roM D4) .nil)⟩
         ·
          refine Dw 1 6 Y (Zs (ov Y) Y Y Y Z4 Y) (Qg (r := 6) Y ZU (.cons (cvs (ov Y)<|Zk Y) Y .nil) Y Y) ?_ ?_
          ·
           exact Do 6 Y (Qg (r := 6) Y ZU (.cons (cvs (ov Y)<|Zk Y) Y .nil) Y Y)<|bE h fun l3 h_l3 h=>Do 7 Y (ZD (f := O29) (ov Y) (ZO (o := ⟨29, [[.own 5 y5.length]]⟩) (ov Y) Y Y tZ_29) ZU Y Y (Zb Y) Y h_l3)<|Dq 8 Y (Zg (ov Y) Y Y ZE)<|Do 9 Y (Zh (ov Y) (ov Y) (Ze Z4) Y Y Y (Nat.le_of_ble_eq_true Y) (Zb Y) Y)<|ZQ (by kernel_rfl) (Ent.trans (Ent.absorbH (r := 2) (j := 0) (q := 5) Y (Zm h_l3) Y Y (List.length_map ..) Y)<|Ent.closeS (r := 2) Y (Zm h_l3) Y)<|⟨_, h, ES [some 0, some 1, some 2, some 3, some 4] (hhp := .cons Y (ro1 (by exact tZ_60.symm)<|rld Y)<|.cons Y (ro1 (by exact tZ_60.symm)<|rlc (.dat Y)<|rlc (.dat Y)<|rlc (.own _ Y)<|rlc (.own _ Y)<|rlc (.own _ Y) rln)<|.cons Y (roO Q8)<|.cons Y (roM D3)<|.cons Y (roM D4) .nil)⟩
          ·
           exact Dq 1 Y (Zs (ov Y) Y Y Y Z4 Y)<|bE h fun l3 h_l3 h=>Do 7 Y (ZD (f := O29) (ov Y) (ZO (o := ⟨29, [[.own 5 y5.length]]⟩) (ov Y) Y Y tZ_29) ZU Y Y (Zb Y) Y h_l3)<|Dq 8 Y (Zg (ov Y) Y Y ZE)<|Do 9 Y (Zh (ov Y) (ov Y) (Ze Z4) Y Y Y (Nat.le_of_ble_eq_true Y) (Zb Y) Y)<|ZQ (by kernel_rfl) (Ent.trans (Ent.absorbH (r := 2) (j := 0) (q := 5) Y (Zm h_l3) Y Y (List.length_map ..) Y)<|Ent.closeS (r := 2) Y (Zm h_l3) Y)<|⟨_, h, ES [some 0, some 1, some 2, some 3, some 4] (hhp := .cons Y (ro1 (by exact tZ_60.symm)<|rld Y)<|.cons Y (ro1 (by exact tZ_60.symm)<|rlc (.dat Y)<|rlc (.dat Y)<|rlc (.own _ Y)<|rlc (.own _ Y)<|rlc (.own _ Y) rln)<|.cons Y (roO Q8)<|.cons Y (roM D3)<|.cons Y (roM D4) .nil)⟩
      ·
       refine Dw 0 4 Y (Zg (ov Y) Y Y ZE) (Xo<|Zq (ZJ h_y4)<|.cons (ov Y) (.b Y) .nil) ?_ ?_
       ·
        refine Dw 1 4 Y (Zs (ov Y) Y Y Y Z4 Y) (Xo<|Zq (ZJ h_y4)<|.cons (ov Y) (.b Y) .nil) ?_ ?_
        ·
         exact Do 4 Y (Xo<|Zq (ZJ h_y4)<|.cons (ov Y) (.b Y) .nil)<|bE h fun y5 h_y5 h=>Do 5 Y (ZC [] (Zf h_y5) (.cons (ov Y) (.dat Y)<|.cons (ov Y) (.dat Y) .nil) .nil Y (.keep Y Y<|.keep Y Y<|.keep Y Y<|.keep Y Y<|.keep Y Y<|.lent 0 (.inr ⟨Nat.le_of_ble_eq_true Y, Y⟩) Y (roM D5) .nil) Y Y<|.own _<|.inr ⟨Nat.le_of_ble_eq_true Y, Y⟩)<|Do 6 Y (Qg (r := 6) Y ZU (.cons (cvs (ov Y)<|Zk Y) Y .nil) Y Y)<|bE h fun l3 h_l3 h=>Do 7 Y (ZD (f := O29) (ov Y) (ZO (o := ⟨29, [[.own 5 y5.length]]⟩) (ov Y) Y Y tZ_29) ZU Y Y (Zb Y) Y h_l3)<|Dq 8 Y (Zg (ov Y) Y Y ZE)<|Do 9 Y (Zh (ov Y) (ov Y) (Ze Z4) Y Y Y (Nat.le_of_ble_eq_true Y) (Zb Y) Y)<|ZQ (by kernel_rfl) (Ent.trans (Ent.absorbH (r := 2) (j := 0) (q := 5) Y (Zm h_l3) Y Y (List.length_map ..) Y)<|Ent.closeS (r := 2) Y (Zm h_l3) Y)<|⟨_, h, ES [some 0, some 1, some 2, some 3, some 4] (hhp := .cons Y (ro1 (by exact tZ_60.symm)<|rld Y)<|.cons Y (ro1 (by exact tZ_60.symm)<|rlc (.dat Y)<|rlc (.dat Y)<|rlc (.own _ Y)<|rlc (.own _ Y)<|rlc (.own _ Y) rln)<|.cons Y (roO Q8)<|.cons Y (roM D3)<|.cons Y (roM D4) .nil)⟩
        ·
         refine bE h fun y5 h_y5 h=>Dw 1 5 Y (Zs (ov Y) Y Y Y Z4 Y) (ZC [] (Zf h_y5) (.cons (ov Y) (.dat Y)<|.cons (ov Y) (.dat Y) .nil) .nil Y (.keep Y Y<|.keep Y Y<|.keep Y Y<|.keep Y Y<|.keep Y Y<|.lent 0 (.inr ⟨Nat.le_of_ble_eq_true Y, Y⟩) Y (roM D5) .nil) Y Y<|.own _<|.inr ⟨Nat.le_of_ble_eq_true Y, Y⟩) ?_ ?_
         ·
          exact Do 5 Y (ZC [] (Zf h_y5) (.cons (ov Y) (.dat Y)<|.cons (ov Y) (.dat Y) .nil) .nil Y (.keep Y Y<|.keep Y Y<|.keep Y Y<|.keep Y Y<|.keep Y Y<|.lent 0 (.inr ⟨Nat.le_of_ble_eq_true Y, Y⟩) Y (roM D5) .nil) Y Y<|.own _<|.inr ⟨Nat.le_of_ble_eq_true Y, Y⟩)<|Do 6 Y (Qg (r := 6) Y ZU (.cons (cvs (ov Y)<|Zk Y) Y .nil) Y Y)<|bE h fun l3 h_l3 h=>Do 7 Y (ZD (f := O29) (ov Y) (ZO (o := ⟨29, [[.own 5 y5.length]]⟩) (ov Y) Y Y tZ_29) ZU Y Y (Zb Y) Y h_l3)<|Dq 8 Y (Zg (ov Y) Y Y ZE)<|Do 9 Y (Zh (ov Y) (ov Y) (Ze Z4) Y Y Y (Nat.le_of_ble_eq_true Y) (Zb Y) Y)<|ZQ (by kernel_rfl) (Ent.trans (Ent.absorbH (r := 2) (j := 0) (q := 5) Y (Zm h_l3) Y Y (List.length_map ..) Y)<|Ent.closeS (r := 2) Y (Zm h_l3) Y)<|⟨_, h, ES [some 0, some 1, some 2, some 3, some 4] (hhp := .cons Y (ro1 (by exact tZ_60.symm)<|rld Y)<|.cons Y (ro1 (by exact tZ_60.symm)<|rlc (.dat Y)<|rlc (.dat Y)<|rlc (.own _ Y)<|rlc (.own _ Y)<|rlc (.own _ Y) rln)<|.cons Y (roO Q8)<|.cons Y (roM D3)<|.cons Y (roM D4) .nil)⟩
         ·
          refine Dw 1 6 Y (Zs (ov Y) Y Y Y Z4 Y) (Qg (r := 6) Y ZU (.cons (cvs (ov Y)<|Zk Y) Y .nil) Y Y) ?_ ?_
          ·
           exact Do 6 Y (Qg (r := 6) Y ZU (.cons (cvs (ov Y)<|Zk Y) Y .nil) Y Y)<|bE h fun l3 h_l3 h=>Do 7 Y (ZD (f := O29) (ov Y) (ZO (o := ⟨29, [[.own 5 y5.length]]⟩) (ov Y) Y Y tZ_29) ZU Y Y (Zb Y) Y h_l3)<|Dq 8 Y (Zg (ov Y) Y Y ZE)<|Do 9 Y (Zh (ov Y) (ov Y) (Ze Z4) Y Y Y (Nat.le_of_ble_eq_true Y) (Zb Y) Y)<|ZQ (by kernel_rfl) (Ent.trans (Ent.absorbH (r := 2) (j := 0) (q := 5) Y (Zm h_l3) Y Y (List.length_map ..) Y)<|Ent.closeS (r := 2) Y (Zm h_l3) Y)<|⟨_, h, ES [some 0, some 1, some 2, some 3, some 4] (hhp := .cons Y (ro1 (by exact tZ_60.symm)<|rld Y)<|.cons Y (ro1 (by exact tZ_60.symm)<|rlc (.dat Y)<|rlc (.dat Y)<|rlc (.own _ Y)<|rlc (.own _ Y)<|rlc (.own _ Y) rln)<|.cons Y (roO Q8)<|.cons Y (roM D3)<|.cons Y (roM D4) .nil)⟩
          ·
           exact Dq 1 Y (Zs (ov Y) Y Y Y Z4 Y)<|bE h fun l3 h_l3 h=>Do 7 Y (ZD (f := O29) (ov Y) (ZO (o := ⟨29, [[.own 5 y5.length]]⟩) (ov Y) Y Y tZ_29) ZU Y Y (Zb Y) Y h_l3)<|Dq 8 Y (Zg (ov Y) Y Y ZE)<|Do 9 Y (Zh (ov Y) (ov Y) (Ze Z4) Y Y Y (Nat.le_of_ble_eq_true Y) (Zb Y) Y)<|ZQ (by kernel_rfl) (Ent.trans (Ent.absorbH (r := 2) (j := 0) (q := 5) Y (Zm h_l3) Y Y (List.length_map ..) Y)<|Ent.closeS (r := 2) Y (Zm h_l3) Y)<|⟨_, h, ES [some 0, some 1, some 2, some 3, some 4] (hhp := .cons Y (ro1 (by exact tZ_60.symm)<|rld Y)<|.cons Y (ro1 (by exact tZ_60.symm)<|rlc (.dat Y)<|rlc (.dat Y)<|rlc (.own _ Y)<|rlc (.own _ Y)<|rlc (.own _ Y) rln)<|.cons Y (roO Q8)<|.cons Y (roM D3)<|.cons Y (roM D4) .nil)⟩
       ·
        refine bE h fun y5 h_y5 h=>Dw 0 5 Y (Zg (ov Y) Y Y ZE) (ZC [] (Zf h_y5) (.cons (ov Y) (.dat Y)<|.cons (ov Y) (.dat Y) .nil) .nil Y (.keep Y Y<|.keep Y Y<|.keep Y Y<|.keep Y Y<|.keep Y Y<|.lent 0 (.inr ⟨Nat.le_of_ble_eq_true Y, Y⟩) Y (roM D5) .nil) Y Y<|.own _<|.inr ⟨Nat.le_of_ble_eq_true Y, Y⟩) ?_ ?_
        ·
         refine Dw 1 5 Y (Zs (ov Y) Y Y Y Z4 Y) (ZC [] (Zf h_y5) (.cons (ov Y) (.dat Y)<|.cons (ov Y) (.dat Y) .nil) .nil Y (.keep Y Y<|.keep Y Y<|.keep Y Y<|.keep Y Y<|.keep Y Y<|.lent 0 (.inr ⟨Nat.le_of_ble_eq_true Y, Y⟩) Y (roM D5) .nil) Y Y<|.own _<|.inr ⟨Nat.le_of_ble_eq_true Y, Y⟩) ?_ ?_
         ·
          exact Do 5 Y (ZC [] (Zf h_y5) (.cons (ov Y) (.dat Y)<|.cons (ov Y) (.dat Y) .nil) .nil Y (.keep Y Y<|.keep Y Y<|.keep Y Y<|.keep Y Y<|.keep Y Y<|.lent 0 (.inr ⟨Nat.le_of_ble_eq_true Y, Y⟩) Y (roM D5) .nil) Y Y<|.own _<|.inr ⟨Nat.le_of_ble_eq_true Y, Y⟩)<|Do 6 Y (Qg (r := 6) Y ZU (.cons (cvs (ov Y)<|Zk Y) Y .nil) Y Y)<|bE h fun l3 h_l3 h=>Do 7 Y (ZD (f := O29) (ov Y) (ZO (o := ⟨29, [[.own 5 y5.length]]⟩) (ov Y) Y Y tZ_29) ZU Y Y (Zb Y) Y h_l3)<|Dq 8 Y (Zg (ov Y) Y Y ZE)<|Do 9 Y (Zh (ov Y) (ov Y) (Ze Z4) Y Y Y (Nat.le_of_ble_eq_true Y) (Zb Y) Y)<|ZQ (by kernel_rfl) (Ent.trans (Ent.absorbH (r := 2) (j := 0) (q := 5) Y (Zm h_l3) Y Y (List.length_map ..) Y)<|Ent.closeS (r := 2) Y (Zm h_l3) Y)<|⟨_, h, ES [some 0, some 1, some 2, some 3, some 4] (hhp := .cons Y (ro1 (by exact tZ_60.symm)<|rld Y)<|.cons Y (ro1 (by exact tZ_60.symm)<|rlc (.dat Y)<|rlc (.dat Y)<|rlc (.own _ Y)<|rlc (.own _ Y)<|rlc (.own _ Y) rln)<|.cons Y (roO Q8)<|.cons Y (roM D3)<|.cons Y (roM D4) .nil)⟩
         ·
          refine Dw 1 6 Y (Zs (ov Y) Y Y Y Z4 Y) (Qg (r := 6) Y ZU (.cons (cvs (ov Y)<|Zk Y) Y .nil) Y Y) ?_ ?_
          ·
           exact Do 6 Y (Qg (r := 6) Y ZU (.cons (cvs (ov Y)<|Zk Y) Y .nil) Y Y)<|bE h fun l3 h_l3 h=>Do 7 Y (ZD (f := O29) (ov Y) (ZO (o := ⟨29, [[.own 5 y5.length]]⟩) (ov Y) Y Y tZ_29) ZU Y Y (Zb Y) Y h_l3)<|Dq 8 Y (Zg (ov Y) Y Y ZE)<|Do 9 Y (Zh (ov Y) (ov Y) (Ze Z4) Y Y Y (Nat.le_of_ble_eq_true Y) (Zb Y) Y)<|ZQ (by kernel_rfl) (Ent.trans (Ent.absorbH (r := 2) (j := 0) (q := 5) Y (Zm h_l3) Y Y (List.length_map ..) Y)<|Ent.closeS (r := 2) Y (Zm h_l3) Y)<|⟨_, h, ES [some 0, some 1, some 2, some 3, some 4] (hhp := .cons Y (ro1 (by exact tZ_60.symm)<|rld Y)<|.cons Y (ro1 (by exact tZ_60.symm)<|rlc (.dat Y)<|rlc (.dat Y)<|rlc (.own _ Y)<|rlc (.own _ Y)<|rlc (.own _ Y) rln)<|.cons Y (roO Q8)<|.cons Y (roM D3)<|.cons Y (roM D4) .nil)⟩
          ·
           exact Dq 1 Y (Zs (ov Y) Y Y Y Z4 Y)<|bE h fun l3 h_l3 h=>Do 7 Y (ZD (f := O29) (ov Y) (ZO (o := ⟨29, [[.own 5 y5.length]]⟩) (ov Y) Y Y tZ_29) ZU Y Y (Zb Y) Y h_l3)<|Dq 8 Y (Zg (ov Y) Y Y ZE)<|Do 9 Y (Zh (ov Y) (ov Y) (Ze Z4) Y Y Y (Nat.le_of_ble_eq_true Y) (Zb Y) Y)<|ZQ (by kernel_rfl) (Ent.trans (Ent.absorbH (r := 2) (j := 0) (q := 5) Y (Zm h_l3) Y Y (List.length_map ..) Y)<|Ent.closeS (r := 2) Y (Zm h_l3) Y)<|⟨_, h, ES [some 0, some 1, some 2, some 3, some 4] (hhp := .cons Y (ro1 (by exact tZ_60.symm)<|rld Y)<|.cons Y (ro1 (by exact tZ_60.symm)<|rlc (.dat Y)<|rlc (.dat Y)<|rlc (.own _ Y)<|rlc (.own _ Y)<|rlc (.own _ Y) rln)<|.cons Y (roO Q8)<|.cons Y (roM D3)<|.cons Y (roM D4) .nil)⟩
        ·
         refine Dw 0 6 Y (Zg (ov Y) Y Y ZE) (Qg (r := 6) Y ZU (.cons (cvs (ov Y)<|Zk Y) Y .nil) Y Y) ?_ ?_
         ·
          refine Dw 1 6 Y (Zs (ov Y) Y Y Y Z4 Y) (Qg (r := 6) Y ZU (.cons (cvs (ov Y)<|Zk Y) Y .nil) Y Y) ?_ ?_
          ·
           exact Do 6 Y (Qg (r := 6) Y ZU (.cons (cvs (ov Y)<|Zk Y) Y .nil) Y Y)<|bE h fun l3 h_l3 h=>Do 7 Y (ZD (f := O29) (ov Y) (ZO (o := ⟨29, [[.own 5 y5.length]]⟩) (ov Y) Y Y tZ_29) ZU Y Y (Zb Y) Y h_l3)<|Dq 8 Y (Zg (ov Y) Y Y ZE)<|Do 9 Y (Zh (ov Y) (ov Y) (Ze Z4) Y Y Y (Nat.le_of_ble_eq_true Y) (Zb Y) Y)<|ZQ (by kernel_rfl) (Ent.trans (Ent.absorbH (r := 2) (j := 0) (q := 5) Y (Zm h_l3) Y Y (List.length_map ..) Y)<|Ent.closeS (r := 2) Y (Zm h_l3) Y)<|⟨_, h, ES [some 0, some 1, some 2, some 3, some 4] (hhp := .cons Y (ro1 (by exact tZ_60.symm)<|rld Y)<|.cons Y (ro1 (by exact tZ_60.symm)<|rlc (.dat Y)<|rlc (.dat Y)<|rlc (.own _ Y)<|rlc (.own _ Y)<|rlc (.own _ Y) rln)<|.cons Y (roO Q8)<|.cons Y (roM D3)<|.cons Y (roM D4) .nil)⟩
          ·
           exact Dq 1 Y (Zs (ov Y) Y Y Y Z4 Y)<|bE h fun l3 h_l3 h=>Do 7 Y (ZD (f := O29) (ov Y) (ZO (o := ⟨29, [[.own 5 y5.length]]⟩) (ov Y) Y Y tZ_29) ZU Y Y (Zb Y) Y h_l3)<|Dq 8 Y (Zg (ov Y) Y Y ZE)<|Do 9 Y (Zh (ov Y) (ov Y) (Ze Z4) Y Y Y (Nat.le_of_ble_eq_true Y) (Zb Y) Y)<|ZQ (by kernel_rfl) (Ent.trans (Ent.absorbH (r := 2) (j := 0) (q := 5) Y (Zm h_l3) Y Y (List.length_map ..) Y)<|Ent.closeS (r := 2) Y (Zm h_l3) Y)<|⟨_, h, ES [some 0, some 1, some 2, some 3, some 4] (hhp := .cons Y (ro1 (by exact tZ_60.symm)<|rld Y)<|.cons Y (ro1 (by exact tZ_60.symm)<|rlc (.dat Y)<|rlc (.dat Y)<|rlc (.own _ Y)<|rlc (.own _ Y)<|rlc (.own _ Y) rln)<|.cons Y (roO Q8)<|.cons Y (roM D3)<|.cons Y (roM D4) .nil)⟩
         ·
          exact Dq 0 Y (Zg (ov Y) Y Y ZE)<|Dq 1 Y (Zs (ov Y) Y Y Y Z4 Y)<|bE h fun l3 h_l3 h=>Do 7 Y (ZD (f := O29) (ov Y) (ZO (o := ⟨29, [[.own 5 y5.length]]⟩) (ov Y) Y Y tZ_29) ZU Y Y (Zb Y) Y h_l3)<|Dq 8 Y (Zg (ov Y) Y Y ZE)<|Do 9 Y (Zh (ov Y) (ov Y) (Ze Z4) Y Y Y (Nat.le_of_ble_eq_true Y) (Zb Y) Y)<|ZQ (by kernel_rfl) (Ent.trans (Ent.absorbH (r := 2) (j := 0) (q := 5) Y (Zm h_l3) Y Y (List.length_map ..) Y)<|Ent.closeS (r := 2) Y (Zm h_l3) Y)<|⟨_, h, ES [some 0, some 1, some 2, some 3, some 4] (hhp := .cons Y (ro1 (by exact tZ_60.symm)<|rld Y)<|.cons Y (ro1 (by exact tZ_60.symm)<|rlc (.dat Y)<|rlc (.dat Y)<|rlc (.own _ Y)<|rlc (.own _ Y)<|rlc (.own _ Y) rln)<|.cons Y (roO Q8)<|.cons Y (roM D3)<|.cons Y (roM D4) .nil)⟩
      ·
       refine Dw 0 2 Y (Zg (ov Y) Y Y ZE) (Xo<|XU Qk (.cons (cvs (ov Y)<|Zk Y) Y (.cons (.b Y) .nil) .nil) Y Y) ?_ ?_
       ·
        refine Dw 1 2 Y (Zs (ov Y) Y Y Y Z4 Y) (Xo<|XU Qk (.cons (cvs (ov Y)<|Zk Y) Y (.cons (.b Y) .nil) .nil) Y Y) ?_ ?_
        ·
         exact Jb 2 (.sl 5<|List.map R5 ([255] : List Int)) _ Y (by kernel_rfl) Y Y (fun h=>by cases h) (fun h=>by cases h) (Xo<|XU Qk (.cons (cvs (ov Y)<|Zk Y) Y (.cons (.b Y) .nil) .nil) Y Y)<|bE h fun y5 h_y5 h=>Do 5 Y (ZC [] (Zf h_y5) (.cons (ov Y) (.dat Y)<|.cons (ov Y) (.dat Y) .nil) .nil Y (.keep Y Y<|.keep Y Y<|.keep Y Y<|.keep Y Y<|.keep Y Y<|.lent 0 (.inr ⟨Nat.le_of_ble_eq_true Y, Y⟩) Y (roM D5) .nil) Y Y<|.own _<|.inr ⟨Nat.le_of_ble_eq_true Y, Y⟩)<|Do 6 Y (Qg (r := 6) Y ZU (.cons (cvs (ov Y)<|Zk Y) Y .nil) Y Y)<|bE h fun l3 h_l3 h=>Do 7 Y (ZD (f := O29) (ov Y) (ZO (o := ⟨29, [[.own 5 y5.length]]⟩) (ov Y) Y Y tZ_29) ZU Y Y (Zb Y) Y h_l3)<|Dq 8 Y (Zg (ov Y) Y Y ZE)<|Do 9 Y (Zh (ov Y) (ov Y) (Ze Z4) Y Y Y (Nat.le_of_ble_eq_true Y) (Zb Y) Y)<|ZQ (by kernel_rfl) (Ent.trans (Ent.absorbH (r := 2) (j := 0) (q := 5) Y (Zm h_l3) Y Y (List.length_map ..) Y)<|Ent.closeS (r := 2) Y (Zm h_l3) Y)<|⟨_, h, ES [some 0, some 1, some 2, some 3, some 4] (hhp := .cons Y (ro1 (by exact tZ_60.symm)<|rld Y)<|.cons Y (ro1 (by exact tZ_60.symm)<|rlc (.dat Y)<|rlc (.dat Y)<|rlc (.own _ Y)<|rlc (.own _ Y)<|rlc (.own _ Y) rln)<|.cons Y (roO Q8)<|.cons Y (roM D3)<|.cons Y (roM D4) .nil)⟩
        ·
         refine bE h fun y5 h_y5 h=>Dw 1 5 Y (Zs (ov Y) Y Y Y Z4 Y) (ZC [] (Zf h_y5) (.cons (ov Y) (.dat Y)<|.cons (ov Y) (.dat Y) .nil) .nil Y (.keep Y Y<|.keep Y Y<|.keep Y Y<|.keep Y Y<|.keep Y Y<|.lent 0 (.inr ⟨Nat.le_of_ble_eq_true Y, Y⟩) Y (roM D5) .nil) Y Y<|.own _<|.inr ⟨Nat.le_of_ble_eq_true Y, Y⟩) ?_ ?_
         ·
          exact Do 5 Y (ZC [] (Zf h_y5) (.cons (ov Y) (.dat Y)<|.cons (ov Y) (.dat Y) .nil) .nil Y (.keep Y Y<|.keep Y Y<|.keep Y Y<|.keep Y Y<|.keep Y Y<|.lent 0 (.inr ⟨Nat.le_of_ble_eq_true Y, Y⟩) Y (roM D5) .nil) Y Y<|.own _<|.inr ⟨Nat.le_of_ble_eq_true Y, Y⟩)<|Do 6 Y (Qg (r := 6) Y ZU (.cons (cvs (ov Y)<|Zk Y) Y .nil) Y Y)<|bE h fun l3 h_l3 h=>Do 7 Y (ZD (f := O29) (ov Y) (ZO (o := ⟨29, [[.own 5 y5.length]]⟩) (ov Y) Y Y tZ_29) ZU Y Y (Zb Y) Y h_l3)<|Dq 8 Y (Zg (ov Y) Y Y ZE)<|Do 9 Y (Zh (ov Y) (ov Y) (Ze Z4) Y Y Y (Nat.le_of_ble_eq_true Y) (Zb Y) Y)<|ZQ (by kernel_rfl) (Ent.trans (Ent.absorbH (r := 2) (j := 0) (q := 5) Y (Zm h_l3) Y Y (List.length_map ..) Y)<|Ent.closeS (r := 2) Y (Zm h_l3) Y)<|⟨_, h, ES [some 0, some 1, some 2, some 3, some 4] (hhp := .cons Y (ro1 (by exact tZ_60.symm)<|rld Y)<|.cons Y (ro1 (by exact tZ_60.symm)<|rlc (.dat Y)<|rlc (.dat Y)<|rlc (.own _ Y)<|rlc (.own _ Y)<|rlc (.own _ Y) rln)<|.cons Y (roO Q8)<|.cons Y (roM D3)<|.cons Y (roM D4) .nil)⟩
         ·
          refine Dw 1 6 Y (Zs (ov Y) Y Y Y Z4 Y) (Qg (r := 6) Y ZU (.cons (cvs (ov Y)<|Zk Y) Y .nil) Y Y) ?_ ?_
          ·
           exact Do 6 Y (Qg (r := 6) Y ZU (.cons (cvs (ov Y)<|Zk Y) Y .nil) Y Y)<|bE h fun l3 h_l3 h=>Do 7 Y (ZD (f := O29) (ov Y) (ZO (o := ⟨29, [[.own 5 y5.length]]⟩) (ov Y) Y Y tZ_29) ZU Y Y (Zb Y) Y h_l3)<|Dq 8 Y (Zg (ov Y) Y Y ZE)<|Do 9 Y (Zh (ov Y) (ov Y) (Ze Z4) Y Y Y (Nat.le_of_ble_eq_true Y) (Zb Y) Y)<|ZQ (by kernel_rfl) (Ent.trans (Ent.absorbH (r := 2) (j := 0) (q := 5) Y (Zm h_l3) Y Y (List.length_map ..) Y)<|Ent.closeS (r := 2) Y (Zm h_l3) Y)<|⟨_, h, ES [some 0, some 1, some 2, some 3, some 4] (hhp := .cons Y (ro1 (by exact tZ_60.symm)<|rld Y)<|.cons Y (ro1 (by exact tZ_60.symm)<|rlc (.dat Y)<|rlc (.dat Y)<|rlc (.own _ Y)<|rlc (.own _ Y)<|rlc (.own _ Y) rln)<|.cons Y (roO Q8)<|.cons Y (roM D3)<|.cons Y (roM D4) .nil)⟩
          ·
           exact Dq 1 Y (Zs (ov Y) Y Y Y Z4 Y)<|bE h fun l3 h_l3 h=>Do 7 Y (ZD (f := O29) (ov Y) (ZO (o := ⟨29, [[.own 5 y5.length]]⟩) (ov Y) Y Y tZ_29) ZU Y Y (Zb Y) Y h_l3)<|Dq 8 Y (Zg (ov Y) Y Y ZE)<|Do 9 Y (Zh (ov Y) (ov Y) (Ze Z4) Y Y Y (Nat.le_of_ble_eq_true Y) (Zb Y) Y)<|ZQ (by kernel_rfl) (Ent.trans (Ent.absorbH (r := 2) (j := 0) (q := 5) Y (Zm h_l3) Y Y (List.length_map ..) Y)<|Ent.closeS (r := 2) Y (Zm h_l3) Y)<|⟨_, h, ES [some 0, some 1, some 2, some 3, some 4] (hhp := .cons Y (ro1 (by exact tZ_60.symm)<|rld Y)<|.cons Y (ro1 (by exact tZ_60.symm)<|rlc (.dat Y)<|rlc (.dat Y)<|rlc (.own _ Y)<|rlc (.own _ Y)<|rlc (.own _ Y) rln)<|.cons Y (roO Q8)<|.cons Y (roM D3)<|.cons Y (roM D4) .nil)⟩
       ·
        refine bE h fun y5 h_y5 h=>Dw 0 5 Y (Zg (ov Y) Y Y ZE) (ZC [] (Zf h_y5) (.cons (ov Y) (.dat Y)<|.cons (ov Y) (.dat Y) .nil) .nil Y (.keep Y Y<|.keep Y Y<|.keep Y Y<|.keep Y Y<|.keep Y Y<|.lent 0 (.inr ⟨Nat.le_of_ble_eq_true Y, Y⟩) Y (roM D5) .nil) Y Y<|.own _<|.inr ⟨Nat.le_of_ble_eq_true Y, Y⟩) ?_ ?_
        ·
         refine Dw 1 5 Y (Zs (ov Y) Y Y Y Z4 Y) (ZC [] (Zf h_y5) (.cons (ov Y) (.dat Y)<|.cons (ov Y) (.dat Y) .nil) .nil Y (.keep Y Y<|.keep Y Y<|.keep Y Y<|.keep Y Y<|.keep Y Y<|.lent 0 (.inr ⟨Nat.le_of_ble_eq_true Y, Y⟩) Y (roM D5) .nil) Y Y<|.own _<|.inr ⟨Nat.le_of_ble_eq_true Y, Y⟩) ?_ ?_
         ·
          exact Do 5 Y (ZC [] (Zf h_y5) (.cons (ov Y) (.dat Y)<|.cons (ov Y) (.dat Y) .nil) .nil Y (.keep Y Y<|.keep Y Y<|.keep Y Y<|.keep Y Y<|.keep Y Y<|.lent 0 (.inr ⟨Nat.le_of_ble_eq_true Y, Y⟩) Y (roM D5) .nil) Y Y<|.own _<|.inr ⟨Nat.le_of_ble_eq_true Y, Y⟩)<|Do 6 Y (Qg (r := 6) Y ZU (.cons (cvs (ov Y)<|Zk Y) Y .nil) Y Y)<|bE h fun l3 h_l3 h=>Do 7 Y (ZD (f := O29) (ov Y) (ZO (o := ⟨29, [[.own 5 y5.length]]⟩) (ov Y) Y Y tZ_29) ZU Y Y (Zb Y) Y h_l3)<|Dq 8 Y (Zg (ov Y) Y Y ZE)<|Do 9 Y (Zh (ov Y) (ov Y) (Ze Z4) Y Y Y (Nat.le_of_ble_eq_true Y) (Zb Y) Y)<|ZQ (by kernel_rfl) (Ent.trans (Ent.absorbH (r := 2) (j := 0) (q := 5) Y (Zm h_l3) Y Y (List.length_map ..) Y)<|Ent.closeS (r := 2) Y (Zm h_l3) Y)<|⟨_, h, ES [some 0, some 1, some 2, some 3, some 4] (hhp := .cons Y (ro1 (by exact tZ_60.symm)<|rld Y)<|.cons Y (ro1 (by exact tZ_60.symm)<|rlc (.dat Y)<|rlc (.dat Y)<|rlc (.own _ Y)<|rlc (.own _ Y)<|rlc (.own _ Y) rln)<|.cons Y (roO Q8)<|.cons Y (roM D3)<|.cons Y (roM D4) .nil)⟩
         ·
          refine Dw 1 6 Y (Zs (ov Y) Y Y Y Z4 Y) (Qg (r := 6) Y ZU (.cons (cvs (ov Y)<|Zk Y) Y .nil) Y Y) ?_ ?_
          ·
           exact Do 6 Y (Qg (r := 6) Y ZU (.cons (cvs (ov Y)<|Zk Y) Y .nil) Y Y)<|bE h fun l3 h_l3 h=>Do 7 Y (ZD (f := O29) (ov Y) (ZO (o := ⟨29, [[.own 5 y5.length]]⟩) (ov Y) Y Y tZ_29) ZU Y Y (Zb Y) Y h_l3)<|Dq 8 Y (Zg (ov Y) Y Y ZE)<|Do 9 Y (Zh (ov Y) (ov Y) (Ze Z4) Y Y Y (Nat.le_of_ble_eq_true Y) (Zb Y) Y)<|ZQ (by kernel_rfl) (Ent.trans (Ent.absorbH (r := 2) (j := 0) (q := 5) Y (Zm h_l3) Y Y (List.length_map ..) Y)<|Ent.closeS (r := 2) Y (Zm h_l3) Y)<|⟨_, h, ES [some 0, some 1, some 2, some 3, some 4] (hhp := .cons Y (ro1 (by exact tZ_60.symm)<|rld Y)<|.cons Y (ro1 (by exact tZ_60.symm)<|rlc (.dat Y)<|rlc (.dat Y)<|rlc (.own _ Y)<|rlc (.own _ Y)<|rlc (.own _ Y) rln)<|.cons Y (roO Q8)<|.cons Y (roM D3)<|.cons Y (roM D4) .nil)⟩
          ·
           exact Dq 1 Y (Zs (ov Y) Y Y Y Z4 Y)<|bE h fun l3 h_l3 h=>Do 7 Y (ZD (f := O29) (ov Y) (ZO (o := ⟨29, [[.own 5 y5.length]]⟩) (ov Y) Y Y tZ_29) ZU Y Y (Zb Y) Y h_l3)<|Dq 8 Y (Zg (ov Y) Y Y ZE)<|Do 9 Y (Zh (ov Y) (ov Y) (Ze Z4) Y Y Y (Nat.le_of_ble_eq_true Y) (Zb Y) Y)<|ZQ (by kernel_rfl) (Ent.trans (Ent.absorbH (r := 2) (j := 0) (q := 5) Y (Zm h_l3) Y Y (List.length_map ..) Y)<|Ent.closeS (r := 2) Y (Zm h_l3) Y)<|⟨_, h, ES [some 0, some 1, some 2, some 3, some 4] (hhp := .cons Y (ro1 (by exact tZ_60.symm)<|rld Y)<|.cons Y (ro1 (by exact tZ_60.symm)<|rlc (.dat Y)<|rlc (.dat Y)<|rlc (.own _ Y)<|rlc (.own _ Y)<|rlc (.own _ Y) rln)<|.cons Y (roO Q8)<|.cons Y (roM D3)<|.cons Y (roM D4) .nil)⟩
        ·
         refine Dw 0 6 Y (Zg (ov Y) Y Y ZE) (Qg (r := 6) Y ZU (.cons (cvs (ov Y)<|Zk Y) Y .nil) Y Y) ?_ ?_
         ·
          refine Dw 1 6 Y (Zs (ov Y) Y Y Y Z4 Y) (Qg (r := 6) Y ZU (.cons (cvs (ov Y)<|Zk Y) Y .nil) Y Y) ?_ ?_
          ·
           exact Do 6 Y (Qg (r := 6) Y ZU (.cons (cvs (ov Y)<|Zk Y) Y .nil) Y Y)<|bE h fun l3 h_l3 h=>Do 7 Y (ZD (f := O29) (ov Y) (ZO (o := ⟨29, [[.own 5 y5.length]]⟩) (ov Y) Y Y tZ_29) ZU Y Y (Zb Y) Y h_l3)<|Dq 8 Y (Zg (ov Y) Y Y ZE)<|Do 9 Y (Zh (ov Y) (ov Y) (Ze Z4) Y Y Y (Nat.le_of_ble_eq_true Y) (Zb Y) Y)<|ZQ (by kernel_rfl) (Ent.trans (Ent.absorbH (r := 2) (j := 0) (q := 5) Y (Zm h_l3) Y Y (List.length_map ..) Y)<|Ent.closeS (r := 2) Y (Zm h_l3) Y)<|⟨_, h, ES [some 0, some 1, some 2, some 3, some 4] (hhp := .cons Y (ro1 (by exact tZ_60.symm)<|rld Y)<|.cons Y (ro1 (by exact tZ_60.symm)<|rlc (.dat Y)<|rlc (.dat Y)<|rlc (.own _ Y)<|rlc (.own _ Y)<|rlc (.own _ Y) rln)<|.cons Y (roO Q8)<|.cons Y (roM D3)<|.cons Y (roM D4) .nil)⟩
          ·
           exact Dq 1 Y (Zs (ov Y) Y Y Y Z4 Y)<|bE h fun l3 h_l3 h=>Do 7 Y (ZD (f := O29) (ov Y) (ZO (o := ⟨29, [[.own 5 y5.length]]⟩) (ov Y) Y Y tZ_29) ZU Y Y (Zb Y) Y h_l3)<|Dq 8 Y (Zg (ov Y) Y Y ZE)<|Do 9 Y (Zh (ov Y) (ov Y) (Ze Z4) Y Y Y (Nat.le_of_ble_eq_true Y) (Zb Y) Y)<|ZQ (by kernel_rfl) (Ent.trans (Ent.absorbH (r := 2) (j := 0) (q := 5) Y (Zm h_l3) Y Y (List.length_map ..) Y)<|Ent.closeS (r := 2) Y (Zm h_l3) Y)<|⟨_, h, ES [some 0, some 1, some 2, some 3, some 4] (hhp := .cons Y (ro1 (by exact tZ_60.symm)<|rld Y)<|.cons Y (ro1 (by exact tZ_60.symm)<|rlc (.dat Y)<|rlc (.dat Y)<|rlc (.own _ Y)<|rlc (.own _ Y)<|rlc (.own _ Y) rln)<|.cons Y (roO Q8)<|.cons Y (roM D3)<|.cons Y (roM D4) .nil)⟩
         ·
          exact Dq 0 Y (Zg (ov Y) Y Y ZE)<|Dq 1 Y (Zs (ov Y) Y Y Y Z4 Y)<|bE h fun l3 h_l3 h=>Do 7 Y (ZD (f := O29) (ov Y) (ZO (o := ⟨29, [[.own 5 y5.length]]⟩) (ov Y) Y Y tZ_29) ZU Y Y (Zb Y) Y h_l3)<|Dq 8 Y (Zg (ov Y) Y Y ZE)<|Do 9 Y (Zh (ov Y) (ov Y) (Ze Z4) Y Y Y (Nat.le_of_ble_eq_true Y) (Zb Y) Y)<|ZQ (by kernel_rfl) (Ent.trans (Ent.absorbH (r := 2) (j := 0) (q := 5) Y (Zm h_l3) Y Y (List.length_map ..) Y)<|Ent.closeS (r := 2) Y (Zm h_l3) Y)<|⟨_, h, ES [some 0, some 1, some 2, some 3, some 4] (hhp := .cons Y (ro1 (by exact tZ_60.symm)<|rld Y)<|.cons Y (ro1 (by exact tZ_60.symm)<|rlc (.dat Y)<|rlc (.dat Y)<|rlc (.own _ Y)<|rlc (.own _ Y)<|rlc (.own _ Y) rln)<|.cons Y (roO Q8)<|.cons Y (roM D3)<|.cons Y (roM D4) .nil)⟩
     ·
      exact Zu<|R2 ZN Y<|Rm Y<|Za<|⟨_, h, ES [some 0, some 1, some 2, some 3, some 4] (hhp := .cons Y (ro1 (by exact tZ_60.symm)<|rld Y)<|.cons Y (ro1 (by exact tZ_60.symm)<|rlc (.dat Y)<|rlc (.dat Y)<|rlc (.own _ Y)<|rlc (.own _ Y)<|rlc (.own _ Y) rln)<|.cons Y (roO Q8)<|.cons Y (roM D3)<|.cons Y (roM D4) .nil)⟩
    ·
     refine ZI<|?_
     replace h := lx h ▸ ho1
     exact ⟨_, h, ES [some 0, some 1, some 2, some 3, some 4] (hhp := .cons Y (ro1 (by exact tZ_60.symm)<|rld Y)<|.cons Y (ro1 (by exact tZ_60.symm)<|rlc (.dat Y)<|rlc (.dat Y)<|rlc (.own _ Y)<|rlc (.own _ Y)<|rlc (.own _ Y) rln)<|.cons Y (roO Q8)<|.cons Y (roM D3)<|.cons Y (roM D4) .nil)⟩
   ·
    refine Tr<|Rq Y (Qj (ov Y) Y Y Y XT Y Y)<|Rx Y (Zh (ov Y) (ov Y) (Zw XT Y) Y Y Y (Nat.le_of_ble_eq_true Y) (Zb Y) Y)<|Ra Y<|Za<|?_
    obtain rfl := rt h
    exact Zp (ZK Y (.two (.agg Y Y Y Y XT Y Y<|.cons (Dat.view<|.b Y)<|.cons (Dat.view<|.b Y)<|.cons (View.ownO Y Y Q8 (fun x=>(D29 x).1) ZkZ)<|.cons (View.ownM Y Y D3)<|.cons (View.ownM Y Y D4) .nil)<|rb Y))
theorem Zd8 {m : api_Memory} {r : Int} (h : XF m = some r) :
 CSpec Tryd.prog gl0 44 [.agg [.int .i64 m.Slots, .int .i64 m.Limit, .sl 29 (List.map R29 m.Sectors), .sl 3 (List.map R3 m.Wear), .sl 4 (List.map R4 m.Bad)]] (.int .i64 r) := by
 unfold XF at h
 replace h := Qa h
 refine So Tryd.func44 Y fun w0 A=>Tr<|Rq Y (ZcL (cva<|ov Y) Y tZ_60 Y)<|Ra Y<|Za<|K1 1 Y<|Tr<|Rq Y (ZP (ov Y) ZE)<|Rq Y (Zd (ov Y) Z4 Y)<|Rl tZ_29 ZU Y<|Ra Y<|Za<|Zj<|Zi<|K2 1 3 Y<|Tr<|Rq Y (ZP (ov Y) ZgS)<|Rq Y (Zd (ov Y) tS3 Y)<|bE h fun y h_y h=>Rq Y (Zq (ZZ h_y)<|.cons (ov Y) (.b Y)<|.cons (ov Y) (.b Y)<|.cons (ov Y) (.b Y) .nil)<|R1 Ji Y<|Rm Y<|Rq Y (.guarded ((!y) == false) Y Y Y Y fun h => ZP (ov Y) ZiD)<|Rq Y (.guarded ((!y) == false) Y Y Y Y fun h => Zd (ow Y h) tS3 Y)<|bE h fun y2 h_y2 h=>Rq Y (.guarded ((!y) == false) Y Y Y Y fun h => Zq (ZZ<|gdT h_y2 h)<|.cons (ow Y h) (.b Y)<|.cons (ov Y) (.b Y)<|.cons (ov Y) (.b Y) .nil)<|Rq Y (.guarded ((!y) == false) Y Y Y Y fun h => Ji<|ow Y h)<|Rq Y (Zev (ov Y) fun hp=>ow Y<|gF hp)<|Rm Y<|Rq Y (.guarded (((!y) || (!y2)) == false) Y Y Y Y fun h => Zc<|ov Y)<|bE h fun y3 h_y3 h=>Rq Y (.guarded (((!y) || (!y2)) == false) Y Y Y Y fun h => Zq (ZZ<|gdT h_y3 h)<|.cons (ow Y h) (.b Y)<|.cons (ov Y) (.b Y)<|.cons (ov Y) (.b Y) .nil)<|Rq Y (.guarded (((!y) || (!y2)) == false) Y Y Y Y fun h => Ji<|ow Y h)<|Rq Y (Zev (ov Y) fun hp=>ow Y<|gF hp)<|Ra Y<|Za<|K3 1 3 9 Y<|If h Y (fun h=>?_) fun h=>?_
 ·
  refine K0<|Tr<|Ra Y<|Za<|?_
  obtain rfl := rt h
  exact Zp (ZK Y (.one<|rb Y))
 ·
  refine K2 1 3 Y<|Tr<|Rq Y (ZP (ov Y) ZeH)<|Rq Y (Zd (ov Y) Zis Y)<|Rl tZ_3 Xt Y<|Rm Y<|R2 XI Y<|Rm Y<|Rq Y (.guarded ((!decide ((m.Wear.length : Int) = (m.Sectors.length : Int))) == false) Y Y Y Y fun h => ZP (ov Y) Zfr)<|Rq Y (.guarded ((!decide ((m.Wear.length : Int) = (m.Sectors.length : Int))) == false) Y Y Y Y fun h => Zd (ow Y h) Zip Y)<|Rq Y (.guarded ((!decide ((m.Wear.length : Int) = (m.Sectors.length : Int))) == false) Y Y Y Y fun h => ZhX (QR (ow Y h) tZ_4) ZgZ<|ZeP _ _)<|Rq Y (.guarded ((!decide ((m.Wear.length : Int) = (m.Sectors.length : Int))) == false) Y Y Y Y fun h => Zc<|ov Y)<|Rq Y (.guarded ((!decide ((m.Wear.length : Int) = (m.Sectors.length : Int))) == false) Y Y Y Y fun h => XI (ow Y h)<|ow Y h)<|Rq Y (Zev (ov Y) fun hp=>ow Y<|gF hp)<|Ra Y<|Za<|K2 1 25 Y<|If h Y (fun h=>?_) fun h=>?_
  ·
   refine K0<|Tr<|Ra Y<|Za<|?_
   obtain rfl := rt h
   exact Zp (ZK Y (.one<|rb Y))
  ·
   refine Zl<|J0 (fun j => (.inr j)) ⟨[], []⟩ h (fun h=>?_) fun h=>?_
   ·
    refine K1 1 Y<|Tr<|Rq Y (ZP (ov Y) ZE)<|Rq Y (Zd (ov Y) Z4 Y)<|Rl tZ_29 ZU Y<|Rm Y<|Za<|Zi<|?_
    obtain ⟨r1, hl1, ho1⟩ := Q2 h
    refine L1 (fun i=>⟨[(1, .rp [.int .i64 m.Slots, .int .i64 m.Limit, .sl 29 (List.map R29 m.Sectors), .sl 3 (List.map R3 m.Wear), .sl 4 (List.map R4 m.Bad)] 0), (39, .sl 29 (List.map R29 m.Sectors)), (40, .int .i64 (m.Sectors.length : Int)), (41, .int .i64 i)], []⟩) hl1 (ES []) fun n1 i h=>?_
    unfold Xv at h
    refine Tr<|R2 ZX Y<|Za<|Zj<|If h Y (fun h=>?_) fun h=>?_
    ·
     refine Zl<|Zj<|Zi<|K4 1 39 40 41 Y<|Tr<|Rm Y<|bE h fun x h_x h=>Rq Y (Z5 (ov Y) (ov Y) ZU h_x)<|Rq Y (Zd (ov Y) Zf5 Y)<|Ra Y<|Ra Y<|Za<|Zj<|K6 1 4 5 39 40 41 Y<|Tr<|Rm Y<|Rl tZ_5 Qk Y<|Rq Y (ZP (ov Y) ZgS)<|Rq Y (Zd (ov Y) tS3 Y)<|bE h fun y4 h_y4 h=>Rq Y (Zq (ZJ h_y4)<|.cons (ov Y) (.b Y) .nil)<|R2 XI Y<|Za<|K6 1 4 39 40 41 51 Y<|If h Y (fun h=>?_) fun h=>?_
     ·
      refine K0<|Tr<|Ra Y<|Za<|?_
      replace h := lx h ▸ ho1
      obtain rfl := rt h
      exact Zp (ZK Y (.one<|rb Y))
     ·
      refine Zl<|Zj<|K5 1 4 39 40 41 Y<|Qn (cw := md0) (by kernel_rfl)<|Dq 0 Y (ZP (ov Y) ZeH)<|Dq 1 Y (Zd (ov Y) Zis Y)<|D1 2 Zc Y<|bE h fun x2 h_x2 h=>Dq 3 Y (Z5 (ov Y) (ov Y) Xt h_x2)<|Dq 4 Y (Zd (ov Y) tS3 Y)<|Dq 5 Y (ZP (ov Y) ZiD)<|Dq 6 Y (Zd (ov Y) tS3 Y)<|bE h fun y5 h_y5 h=>Dq 7 Y (Zq (ZZ h_y5)<|.cons (ov Y) (.b Y)<|.cons (ov Y) (.b Y)<|.cons (ov Y) (.b Y) .nil)<|D1 8 Ji Y<|Dd<|K5 1 39 40 41 60 Y<|If h Y (fun h=>?_) fun h=>?_
      ·
       refine K0<|Tr<|Ra Y<|Za<|?_
       replace h := lx h ▸ ho1
       obtain rfl := rt h
       exact Zp (ZK Y (.one<|rb Y))
      ·
       exact Zl<|K4 1 39 40 41 Y<|Zu<|R2 ZN Y<|Rm Y<|Za<|⟨_, h, ES []⟩
    ·
     refine ZI<|?_
     replace h := lx h ▸ ho1
     exact ⟨(), h, ES []⟩
   ·
    replace h := elr h
    replace h := t0i h
    refine Tr<|Ra Y<|Za<|?_
    obtain rfl := rt h
    exact Zp (ZK Y (.one<|rb Y))
end Go.Proofs.YtnlmjeleocelgaaDoor
