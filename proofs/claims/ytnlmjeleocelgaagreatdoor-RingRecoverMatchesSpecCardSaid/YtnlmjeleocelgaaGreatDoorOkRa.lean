/- A text of the proof: a verified executor of the program form, or the contracts of the functions that the law reaches. -/
import Derived.Test.YtnlmjeleocelgaaGreatDoorVS
import Derived.Test.YtnlmjeleocelgaaGreatDoorPA
import Derived.Test.YtnlmjeleocelgaaGreatDoorShT
import Derived.Test.YtnlmjeleocelgaaGreatDoorProg
import Derived.Test.YtnlmjeleocelgaaGreatDoorLayZ
set_option linter.all false
namespace Go.Proofs.YtnlmjeleocelgaaGreatDoor
open Go Go.Vx
set_option maxRecDepth 10000
set_option maxHeartbeats 1000000
set_option linter.unusedVariables false
theorem tZ_5 : Tryz.prog.cellsOf 5 = 1 := by kernel_rfl
instance : SzD Tryz.prog 5 1 := ⟨tZ_5⟩
theorem tZ_49 : Tryz.prog.cellsOf 49 = 1 := by kernel_rfl
instance : SzD Tryz.prog 49 1 := ⟨tZ_49⟩
theorem tZ_3 : Tryz.prog.cellsOf 3 = 1 := by kernel_rfl
instance : SzD Tryz.prog 3 1 := ⟨tZ_3⟩
theorem tZ_4 : Tryz.prog.cellsOf 4 = 1 := by kernel_rfl
instance : SzD Tryz.prog 4 1 := ⟨tZ_4⟩
theorem tZ_26 : Tryz.prog.cellsOf 26 = 5 := by kernel_rfl
instance : SzD Tryz.prog 26 5 := ⟨tZ_26⟩
theorem X5 : tAgg Tryz.prog 26 5 = true := by kernel_rfl
theorem ZP : tFld Tryz.prog 26 2 2 = true := by kernel_rfl
theorem Qw : tScal Tryz.prog 22 = true := by kernel_rfl
theorem Qm : tSl Tryz.prog 22 49 1 24 = true := by kernel_rfl
theorem ZeK : tFld Tryz.prog 26 0 0 = true := by kernel_rfl
theorem tS3 : tScal Tryz.prog 3 = true := by kernel_rfl
theorem Zjz : tFld Tryz.prog 26 1 1 = true := by kernel_rfl
theorem Zfx : tFld Tryz.prog 26 3 3 = true := by kernel_rfl
theorem ZkK : tScal Tryz.prog 23 = true := by kernel_rfl
theorem QK : tSl Tryz.prog 23 3 1 8 = true := by kernel_rfl
theorem ZeI : tFld Tryz.prog 26 4 4 = true := by kernel_rfl
theorem ZjR : tScal Tryz.prog 24 = true := by kernel_rfl
theorem ZgF : tSl Tryz.prog 24 4 1 1 = true := by kernel_rfl
theorem ZfN : tScal Tryz.prog 49 = true := by kernel_rfl
theorem QF : tSl Tryz.prog 49 5 1 1 = true := by kernel_rfl
theorem ZqK : JI Tryz.prog 92 = some [.nilFunc] := by kernel_rfl
theorem tZ_92 : Tryz.prog.cellsOf 92 = 1 := by kernel_rfl
instance : SzD Tryz.prog 92 1 := ⟨tZ_92⟩
theorem Zpj : tScal Tryz.prog 92 = true := by kernel_rfl
theorem Zjf : tArr Tryz.prog 225 16 5 1 = true := by kernel_rfl
theorem tS5 : tScal Tryz.prog 5 = true := by kernel_rfl
theorem tI5 : tInt Tryz.prog 5 .u8 = true := by kernel_rfl
theorem tI3 : tInt Tryz.prog 3 .i64 = true := by kernel_rfl
theorem tS4 : tScal Tryz.prog 4 = true := by kernel_rfl
theorem Zgr : tInt Tryz.prog 132 .u64 = true := by kernel_rfl
theorem ZnL : tInt Tryz.prog 169 .u32 = true := by kernel_rfl
theorem Znk : tSl Tryz.prog 170 169 1 4 = true := by kernel_rfl
theorem tZ_169 : Tryz.prog.cellsOf 169 = 1 := by kernel_rfl
instance : SzD Tryz.prog 169 1 := ⟨tZ_169⟩
theorem ZpY : tScal Tryz.prog 169 = true := by kernel_rfl
theorem ZpT : tU8 Tryz.prog 5 = true := by kernel_rfl
theorem Zl7 : tStr Tryz.prog 9 = true := by kernel_rfl
theorem Zdx : JI Tryz.prog 26 = some [.int .i64 0, .int .i64 0, .slice none 0 0, .slice none 0 0, .slice none 0 0] := by kernel_rfl
theorem ZjM : Zdo Tryz.prog 26 = some [(0, 1), (1, 1), (2, 1), (3, 1), (4, 1)] := by kernel_rfl
theorem ZjH : Zgq Tryz.prog 26 = true := by kernel_rfl
theorem Zpg : (match Tryz.prog.underlying 49 with | some (.slice _) => true | _ => false) = true := by kernel_rfl
theorem Zpc : (match Tryz.prog.underlying 23 with | some (.slice _) => true | _ => false) = true := by kernel_rfl
theorem ZpQ : (match Tryz.prog.underlying 24 with | some (.slice _) => true | _ => false) = true := by kernel_rfl
theorem tZ5 : JI Tryz.prog 5 = some [.int .u8 0] := by kernel_rfl
theorem tB4 : (match Tryz.prog.underlying 4 with | some .bool => true | _ => false) = true := by kernel_rfl
theorem tZ3 : JI Tryz.prog 3 = some [.int .i64 0] := by kernel_rfl
theorem Zd8 : JI Tryz.prog 42 = some [.int .u16 0, .int .u16 0, .int .u16 0, .int .u16 0, .int .u16 0, .int .u16 0, .int .u16 0, .int .u16 0, .int .u16 0, .int .u16 0, .int .u16 0, .int .u16 0, .int .u16 0, .int .u16 0, .int .u16 0, .int .u16 0, .int .u16 0, .int .u16 0, .int .u16 0, .int .u16 0, .int .u16 0, .int .u16 0, .int .u16 0, .int .u16 0, .int .u16 0, .int .u16 0, .int .u16 0, .int .u16 0, .int .u16 0, .int .u16 0, .int .u16 0, .int .u16 0, .int .u16 0, .int .u16 0, .int .u16 0, .int .u16 0, .int .u16 0, .int .u16 0, .int .u16 0, .int .u16 0, .int .u16 0, .int .u16 0, .int .u16 0, .int .u16 0, .int .u16 0, .int .u16 0, .int .u16 0, .int .u16 0, .int .u16 0, .int .u16 0, .int .u16 0, .int .u16 0, .int .u16 0, .int .u16 0, .int .u16 0, .int .u16 0, .int .u16 0, .int .u16 0, .int .u16 0, .int .u16 0, .int .u16 0, .int .u16 0, .int .u16 0, .int .u16 0] := by kernel_rfl
theorem tZ_42 : Tryz.prog.cellsOf 42 = 64 := by kernel_rfl
instance : SzD Tryz.prog 42 64 := ⟨tZ_42⟩
theorem Jk : tArr Tryz.prog 42 64 40 1 = true := by kernel_rfl
theorem QR : tAgg Tryz.prog 42 64 = true := by kernel_rfl
theorem Zcx : tInt Tryz.prog 40 .u16 = true := by kernel_rfl
theorem Zae : tScal Tryz.prog 40 = true := by kernel_rfl
theorem ZoN : tArr Tryz.prog 196 4 3 1 = true := by kernel_rfl
theorem Zqi : JI Tryz.prog 196 = some [.int .i64 0, .int .i64 0, .int .i64 0, .int .i64 0] := by kernel_rfl
theorem tZ4 : JI Tryz.prog 4 = some [.bool false] := by kernel_rfl
theorem Zaz : tSl Tryz.prog 33 26 5 88 = true := by kernel_rfl
theorem Zpo : Zdo Tryz.prog 102 = some [(0, 2), (2, 1), (3, 1), (4, 1), (5, 1), (6, 1)] := by kernel_rfl
theorem Zpv : Zgq Tryz.prog 102 = true := by kernel_rfl
theorem Zqx : JI Tryz.prog 102 = some [.slice none 0 0, .slice none 0 0, .int .i64 0, .bool false, .bool false, .int .i64 0, .bool false] := by kernel_rfl
theorem Zp8 : tAgg Tryz.prog 102 7 = true := by kernel_rfl
theorem Zew : tFld Tryz.prog 102 0 0 = true := by kernel_rfl
theorem ZdS : tFld Tryz.prog 100 0 0 = true := by kernel_rfl
theorem Zku : tScal Tryz.prog 33 = true := by kernel_rfl
theorem Zkc : JI Tryz.prog 105 = some [.int .i64 0, .int .i64 0] := by kernel_rfl
theorem tZ_105 : Tryz.prog.cellsOf 105 = 2 := by kernel_rfl
instance : SzD Tryz.prog 105 2 := ⟨tZ_105⟩
theorem Zlw : Zdo Tryz.prog 105 = some [(0, 1), (1, 1)] := by kernel_rfl
theorem ZlG : Zgq Tryz.prog 105 = true := by kernel_rfl
theorem Zhv : tAgg Tryz.prog 105 2 = true := by kernel_rfl
theorem Zgy : tFld Tryz.prog 105 0 0 = true := by kernel_rfl
theorem ZlX : tArr Tryz.prog 224 97 5 1 = true := by kernel_rfl
theorem Zhp : tFld Tryz.prog 105 1 1 = true := by kernel_rfl
theorem Zfg : tFld Tryz.prog 100 1 1 = true := by kernel_rfl
theorem ZlF : tScal Tryz.prog 98 = true := by kernel_rfl
theorem Zlz : tSl Tryz.prog 98 105 2 16 = true := by kernel_rfl
theorem ZkE : tFld Tryz.prog 102 2 3 = true := by kernel_rfl
theorem tZ_102 : Tryz.prog.cellsOf 102 = 7 := by kernel_rfl
instance : SzD Tryz.prog 102 7 := ⟨tZ_102⟩
theorem Zmm : tFld Tryz.prog 102 3 4 = true := by kernel_rfl
theorem ZeO : Zdo Tryz.prog 149 = some [(0, 1), (1, 1)] := by kernel_rfl
theorem ZeP : Zgq Tryz.prog 149 = true := by kernel_rfl
theorem ZgT : JI Tryz.prog 149 = some [.int .i64 0, .int .i64 0] := by kernel_rfl
theorem Zat : tSl Tryz.prog 108 149 2 16 = true := by kernel_rfl
theorem tZ_149 : Tryz.prog.cellsOf 149 = 2 := by kernel_rfl
instance : SzD Tryz.prog 149 2 := ⟨tZ_149⟩
theorem Zqh : tArr Tryz.prog 150 4 40 1 = true := by kernel_rfl
theorem Zon : tFld Tryz.prog 102 1 2 = true := by kernel_rfl
theorem ZoY : JI Tryz.prog 157 = some [.int .u8 0, .int .u8 0, .int .u8 0, .int .u8 0, .int .u8 0, .int .u8 0, .int .u8 0, .int .u8 0, .int .u8 0, .int .u8 0, .int .u8 0, .int .u8 0, .int .u8 0, .int .u8 0, .int .u8 0, .int .u8 0, .int .u8 0, .int .u8 0, .int .u8 0, .int .u8 0, .int .u8 0, .int .u8 0, .int .u8 0, .int .u8 0, .int .u8 0, .int .u8 0, .int .u8 0, .int .u8 0, .int .u8 0, .int .u8 0, .int .u8 0, .int .u8 0, .int .u8 0, .int .u8 0, .int .u8 0, .int .u8 0, .int .u8 0, .int .u8 0, .int .u8 0, .int .u8 0, .int .u8 0, .int .u8 0, .int .u8 0, .int .u8 0, .int .u8 0, .int .u8 0, .int .u8 0, .int .u8 0, .int .u8 0, .int .u8 0, .int .u8 0, .int .u8 0, .int .u8 0, .int .u8 0, .int .u8 0, .int .u8 0, .int .u8 0, .int .u8 0, .int .u8 0, .int .u8 0, .int .u8 0, .int .u8 0, .int .u8 0, .int .u8 0, .int .u8 0, .int .u8 0, .int .u8 0, .int .u8 0, .int .u8 0, .int .u8 0, .int .u8 0, .int .u8 0, .int .u8 0, .int .u8 0, .int .u8 0, .int .u8 0, .int .u8 0, .int .u8 0, .int .u8 0, .int .u8 0, .int .u8 0, .int .u8 0, .int .u8 0, .int .u8 0, .int .u8 0, .int .u8 0, .int .u8 0, .int .u8 0, .int .u8 0, .int .u8 0, .int .u8 0, .int .u8 0, .int .u8 0, .int .u8 0, .int .u8 0, .int .u8 0] := by kernel_rfl
theorem tZ_157 : Tryz.prog.cellsOf 157 = 96 := by kernel_rfl
instance : SzD Tryz.prog 157 96 := ⟨tZ_157⟩
theorem ZeB : tArr Tryz.prog 157 96 5 1 = true := by kernel_rfl
theorem Zou : tFld Tryz.prog 102 4 5 = true := by kernel_rfl
theorem Zoe : tFld Tryz.prog 102 5 6 = true := by kernel_rfl
theorem ZoR : tAgg Tryz.prog 157 96 = true := by kernel_rfl
theorem ZoS : Zdo Tryz.prog 65 = some [(0, 1), (1, 1), (2, 1), (3, 1), (4, 64)] := by kernel_rfl
theorem ZoV : Zgq Tryz.prog 65 = true := by kernel_rfl
theorem ZmI : JI Tryz.prog 65 = some ([.int .i64 0, .int .i64 0, .int .i64 0, .int .i64 0] ++ (List.flatten (List.replicate 64 [.int .u16 0]))) := by kernel_rfl
theorem ZcV : tSl Tryz.prog 60 65 68 160 = true := by kernel_rfl
theorem tZ_65 : Tryz.prog.cellsOf 65 = 68 := by kernel_rfl
instance : SzD Tryz.prog 65 68 := ⟨tZ_65⟩
theorem Zkv : tMap Tryz.prog 127 3 65 = true := by kernel_rfl
theorem ZoZ : Zml Tryz.prog 65 = some (.agg (([.int .i64 0, .int .i64 0, .int .i64 0, .int .i64 0] ++ (List.flatten (List.replicate 64 [.int .u16 0]))) : List Value).toArray) := by kernel_rfl
theorem Zhc : tAgg Tryz.prog 65 68 = true := by kernel_rfl
theorem Zhf : tFld Tryz.prog 65 4 4 = true := by kernel_rfl
theorem Zko : tFld Tryz.prog 65 2 2 = true := by kernel_rfl
theorem tZ_127 : Tryz.prog.cellsOf 127 = 1 := by kernel_rfl
instance : SzD Tryz.prog 127 1 := ⟨tZ_127⟩
theorem ZoE : Znl Tryz.prog 65 4 4 42 64 = true := by kernel_rfl
theorem ZjI : tSl Tryz.prog 66 42 64 128 = true := by kernel_rfl
def gl0 : Gl := ⟨1, [(0, (gv_frame_syncs.toList.map fun z => Value.int .u16 z).toArray)]⟩
def R5 (x : Int) : List AV := [.int .u8 x]
def R49 (x : List Int) : List AV := [.sl 5 (List.map R5 x)]
def R3 (x : Int) : List AV := [.int .i64 x]
def R4 (x : Bool) : List AV := [.bool x]
def C5 (x : Int) : AV := .int .u8 x
theorem D5 (x : Int) : (R5 x).length = Tryz.prog.cellsOf 5 ∧ (R5 x).all datB = true := ⟨tZ_5.symm, rfl⟩
instance : RowD Tryz.prog 5 R5 := ⟨D5⟩
theorem D3 (x : Int) : (R3 x).length = Tryz.prog.cellsOf 3 ∧ (R3 x).all datB = true := ⟨tZ_3.symm, rfl⟩
instance : RowD Tryz.prog 3 R3 := ⟨D3⟩
def ZoJ (x : Int) : List AV := [.int .u32 x]
def C3 (x : Int) : AV := .int .i64 x
theorem D49 (x : List Int) : (R49 x).length = Tryz.prog.cellsOf 49 ∧ (R49 x).all datB = true := ⟨tZ_49.symm, rfl⟩
instance : RowD Tryz.prog 49 R49 := ⟨D49⟩
theorem DR5 (x : Int) : (R5 x).length = Tryz.prog.cellsOf 5 ∧ ZdJ Tryz.prog (R5 x) := ⟨(D5 x).1, dlF rfl⟩
def O49 (x : List Int) : List AV := [.osub 5 (List.map R5 x)]
theorem Jm (x : List Int) : (O49 x).length = Tryz.prog.cellsOf 49 ∧ ZdJ Tryz.prog (O49 x) := ⟨tZ_49.symm, dlC (dcS DR5) <| dlN⟩
theorem Zpb (x : List Int) : Pw (MeltC Tryz.prog) (O49 x) (R49 x) := .cons (mcS DR5 (fun x => (D5 x).1) (fun _ => mcF rfl)) <| .nil
theorem D4 (x : Bool) : (R4 x).length = Tryz.prog.cellsOf 4 ∧ (R4 x).all datB = true := ⟨tZ_4.symm, rfl⟩
instance : RowD Tryz.prog 4 R4 := ⟨D4⟩
def C40 (x : Int) : AV := .int .u16 x
def R26 (x : api_Memory) : List AV := [.int .i64 x.Slots, .int .i64 x.Limit, .sl 49 (List.map R49 x.Sectors), .sl 3 (List.map R3 x.Wear), .sl 4 (List.map R4 x.Bad)]
theorem D26 (x : api_Memory) : (R26 x).length = Tryz.prog.cellsOf 26 ∧ (R26 x).all datB = true := ⟨tZ_26.symm, rfl⟩
instance : RowD Tryz.prog 26 R26 := ⟨D26⟩
theorem DR3 (x : Int) : (R3 x).length = Tryz.prog.cellsOf 3 ∧ ZdJ Tryz.prog (R3 x) := ⟨(D3 x).1, dlF rfl⟩
theorem DR4 (x : Bool) : (R4 x).length = Tryz.prog.cellsOf 4 ∧ ZdJ Tryz.prog (R4 x) := ⟨(D4 x).1, dlF rfl⟩
def O26 (x : api_Memory) : List AV := [.int .i64 x.Slots, .int .i64 x.Limit, .osub 49 (List.map O49 x.Sectors), .osub 3 (List.map R3 x.Wear), .osub 4 (List.map R4 x.Bad)]
theorem Jn (x : api_Memory) : (O26 x).length = Tryz.prog.cellsOf 26 ∧ ZdJ Tryz.prog (O26 x) := ⟨tZ_26.symm, dlC (.flat rfl) <| dlC (.flat rfl) <| dlC (dcS Jm) <| dlC (dcS DR3) <| dlC (dcS DR4) <| dlN⟩
theorem ZlK (x : api_Memory) : Pw (MeltC Tryz.prog) (O26 x) (R26 x) := .cons (.dat rfl) <| .cons (.dat rfl) <| .cons (mcS Jm (fun x => (D49 x).1) Zpb) <| .cons (mcS DR3 (fun x => (D3 x).1) (fun _ => mcF rfl)) <| .cons (mcS DR4 (fun x => (D4 x).1) (fun _ => mcF rfl)) <| .nil
def R105 (x : ring_spot) : List AV := [.int .i64 x.sector, .int .i64 x.slot]
theorem D105 (x : ring_spot) : (R105 x).length = Tryz.prog.cellsOf 105 ∧ (R105 x).all datB = true := ⟨tZ_105.symm, rfl⟩
instance : RowD Tryz.prog 105 R105 := ⟨D105⟩
def R149 (x : api_Flaw) : List AV := [.int .i64 x.Word, .int .i64 x.Kind]
theorem D149 (x : api_Flaw) : (R149 x).length = Tryz.prog.cellsOf 149 ∧ (R149 x).all datB = true := ⟨tZ_149.symm, rfl⟩
instance : RowD Tryz.prog 149 R149 := ⟨D149⟩
theorem at1 {a0 : AV} {a1 : AV} {a2 : AV} {a3 : AV} {v4 : Vector Int 64} : At ((a0) :: (a1) :: (a2) :: (a3) :: ((List.map C40 v4.toList) ++ ([]))) 0 1 ([a0]) := at0 (hdc (n := 0) hd0)
theorem pt2 {a0 : AV} {a1 : AV} {a2 : AV} {a3 : AV} {v4 : Vector Int 64} {b0 : AV} : Put ((a0) :: (a1) :: (a2) :: (a3) :: ((List.map C40 v4.toList) ++ ([]))) 0 ([b0]) ((b0) :: (a1) :: (a2) :: (a3) :: ((List.map C40 v4.toList) ++ ([]))) := Zoy
theorem at3 {a0 : AV} {a1 : AV} {a2 : AV} {a3 : AV} {v4 : Vector Int 64} : At ((a0) :: (a1) :: (a2) :: (a3) :: ((List.map C40 v4.toList) ++ ([]))) 1 1 ([a1]) := atc (o := 0) (at0 (hdc (n := 0) hd0))
theorem pt4 {a0 : AV} {a1 : AV} {a2 : AV} {a3 : AV} {v4 : Vector Int 64} {b1 : AV} : Put ((a0) :: (a1) :: (a2) :: (a3) :: ((List.map C40 v4.toList) ++ ([]))) 1 ([b1]) ((a0) :: (b1) :: (a2) :: (a3) :: ((List.map C40 v4.toList) ++ ([]))) := Zj6 (o := 0) (Zoy)
theorem at5 {a0 : AV} {a1 : AV} {a2 : AV} {a3 : AV} {v4 : Vector Int 64} : At ((a0) :: (a1) :: (a2) :: (a3) :: ((List.map C40 v4.toList) ++ ([]))) 2 1 ([a2]) := atc (o := 1) (atc (o := 0) (at0 (hdc (n := 0) hd0)))
theorem pt6 {a0 : AV} {a1 : AV} {a2 : AV} {a3 : AV} {v4 : Vector Int 64} {b2 : AV} : Put ((a0) :: (a1) :: (a2) :: (a3) :: ((List.map C40 v4.toList) ++ ([]))) 2 ([b2]) ((a0) :: (a1) :: (b2) :: (a3) :: ((List.map C40 v4.toList) ++ ([]))) := Zj6 (o := 1) (Zj6 (o := 0) (Zoy))
theorem at7 {a0 : AV} {a1 : AV} {a2 : AV} {a3 : AV} {v4 : Vector Int 64} : At ((a0) :: (a1) :: (a2) :: (a3) :: ((List.map C40 v4.toList) ++ ([]))) 3 1 ([a3]) := atc (o := 2) (atc (o := 1) (atc (o := 0) (at0 (hdc (n := 0) hd0))))
theorem pt8 {a0 : AV} {a1 : AV} {a2 : AV} {a3 : AV} {v4 : Vector Int 64} {b3 : AV} : Put ((a0) :: (a1) :: (a2) :: (a3) :: ((List.map C40 v4.toList) ++ ([]))) 3 ([b3]) ((a0) :: (a1) :: (a2) :: (b3) :: ((List.map C40 v4.toList) ++ ([]))) := Zj6 (o := 2) (Zj6 (o := 1) (Zj6 (o := 0) (Zoy)))
theorem at9 {a0 : AV} {a1 : AV} {a2 : AV} {a3 : AV} {v4 : Vector Int 64} : At ((a0) :: (a1) :: (a2) :: (a3) :: ((List.map C40 v4.toList) ++ ([]))) 4 64 ((List.map C40 v4.toList)) := atc (o := 3) (atc (o := 2) (atc (o := 1) (atc (o := 0) (at0 (hdw arL)))))
theorem Zqd {a0 : AV} {a1 : AV} {a2 : AV} {a3 : AV} {v4 : Vector Int 64} {w4 : Vector Int 64} : Put ((a0) :: (a1) :: (a2) :: (a3) :: ((List.map C40 v4.toList) ++ ([]))) 4 ((List.map C40 w4.toList)) ((a0) :: (a1) :: (a2) :: (a3) :: ((List.map C40 w4.toList) ++ ([]))) := Zj6 (o := 3) (Zj6 (o := 2) (Zj6 (o := 1) (Zj6 (o := 0) (ZqF (Eq.trans arL (Eq.symm arL))))))
theorem Q8 {a0 : AV} {a1 : AV} {a2 : AV} {a3 : AV} {v4 : Vector Int 64} : ((a0) :: (a1) :: (a2) :: (a3) :: ((List.map C40 v4.toList) ++ ([]))).length = 68 := lnC (n := 67) (lnC (n := 66) (lnC (n := 65) (lnC (n := 64) (lnA (m := 64) (n := 0) arL (lnN)))))
theorem Ze7 {x0 : Int} {x1 : Int} {x2 : Int} {x3 : Int} {v4 : Vector Int 64} : ((.int .i64 x0) :: (.int .i64 x1) :: (.int .i64 x2) :: (.int .i64 x3) :: ((List.map C40 v4.toList) ++ ([]))).all datB = true := alC rfl (alC rfl (alC rfl (alC rfl (alA (arD fun _ => rfl) (alN)))))
def R65 (x : api_Kept) : List AV := (.int .i64 x.Memory) :: (.int .i64 x.Sector) :: (.int .i64 x.Sequence) :: (.int .i64 x.Slot) :: ((List.map C40 x.Frame.toList) ++ ([]))
theorem ZlO {x0 : Int} {x1 : Int} {x2 : Int} {x3 : Int} {v4 : Vector Int 64} : ((.int .i64 x0) :: (.int .i64 x1) :: (.int .i64 x2) :: (.int .i64 x3) :: ((List.map C40 v4.toList) ++ ([]))).all c1B = true := alC rfl (alC rfl (alC rfl (alC rfl (alA (arC fun _ => rfl) (alN)))))
theorem E65 (x : api_Kept) : (R65 x).all c1B = true := ZlO
theorem D65 (x : api_Kept) : (R65 x).length = Tryz.prog.cellsOf 65 ∧ (R65 x).all datB = true := ⟨Eq.trans (b := 68) Q8 tZ_65.symm, Ze7⟩
instance : RowD Tryz.prog 65 R65 := ⟨D65⟩
def FK3 (x : Int) : AV := .int .i64 x
theorem Zpn : KeyOK Tryz.prog 3 FK3 kqI := Zoj (fun _ => rfl) tI3
def ZgJ (x : api_Kept) : AV := .agg ((.int .i64 x.Memory) :: (.int .i64 x.Sector) :: (.int .i64 x.Sequence) :: (.int .i64 x.Slot) :: ((List.map C40 x.Frame.toList) ++ ([])))
theorem Zm8 {x0 : Int} {x1 : Int} {x2 : Int} {x3 : Int} {v4 : Vector Int 64} : NS ((.int .i64 x0) :: (.int .i64 x1) :: (.int .i64 x2) :: (.int .i64 x3) :: ((List.map C40 v4.toList) ++ ([]))) := nsC rfl (nsC rfl (nsC rfl (nsC rfl (nsA (nsM fun _ => rfl) (nsR rfl)))))
def R42 (x : Vector Int 64) : List AV := (List.map C40 x.toList)
theorem E42 (x : Vector Int 64) : (R42 x).all c1B = true := (arC fun _ => rfl)
theorem D42 (x : Vector Int 64) : (R42 x).length = Tryz.prog.cellsOf 42 ∧ (R42 x).all datB = true := ⟨Eq.trans (b := 64) arL tZ_42.symm, (arD fun _ => rfl)⟩
instance : RowD Tryz.prog 42 R42 := ⟨D42⟩
theorem Zo9 : Zm7 Tryz.prog 42 ((List.replicate 64 ([.i .u16])).flatten) := ⟨by kernel_rfl, by kernel_rfl, by kernel_rfl⟩
theorem Zqg : Zm7 Tryz.prog 65 ((.i .i64 :: (.i .i64 :: (.i .i64 :: (.i .i64 :: ((List.replicate 64 ([.i .u16])).flatten ++ [])))))) := ⟨by kernel_rfl, by kernel_rfl, by kernel_rfl⟩
theorem QG {n : Int} {low : Int} {high : Int} {r : Bool} (h : Z9 n low high = some r) :
 CSpec Tryz.prog gl0 54 [.int .i64 n, .int .i64 low, .int .i64 high] (.bool r) := by
 unfold Z9 at h
 replace h := Qk h
 refine So Tryz.func54 Y fun w0 A=>Tr<|Ra Y<|Za<|Tr<|Rm Y<|Rm Y<|R2 ZhA Y<|Rm Y<|Rq Y (.guarded ((decide (low ≤ n)) == true) Y Y Y Y fun h => Zc<|ov Y)<|Rq Y (.guarded ((decide (low ≤ n)) == true) Y Y Y Y fun h => Zc<|ov Y)<|Rq Y (.guarded ((decide (low ≤ n)) == true) Y Y Y Y fun h => ZhU (ow Y h)<|ow Y h)<|Rq Y (Zb4 (ov Y) fun hp=>ow Y<|gT hp)<|Ra Y<|Za<|?_
 obtain rfl := rt h
 exact Zo (ZG Y (.one<|rb Y))
theorem Qi {slots : Int} {r : Int} (h : Q3 slots = some r) :
 CSpec Tryz.prog gl0 56 [.int .i64 slots] (.int .i64 r) := by
 unfold Q3 at h
 replace h := Qk h
 refine So Tryz.func56 Y fun w0 A=>Tr<|Ra Y<|Za<|Tr<|Rm Y<|R2 Zds Y<|R2 ZF Y<|Ra Y<|Za<|?_
 obtain rfl := rt h
 exact Zo (ZG Y (.one<|rb Y))
theorem ZgM {m : api_Memory} {r : Int} (h : QP m = some r) :
 CSpec Tryz.prog gl0 43 [.agg [.int .i64 m.Slots, .int .i64 m.Limit, .sl 49 (List.map R49 m.Sectors), .sl 3 (List.map R3 m.Wear), .sl 4 (List.map R4 m.Bad)]] (.int .i64 r) := by
 unfold QP at h
 replace h := Qk h
 refine So Tryz.func43 Y fun w0 A=>Tr<|Rq Y (ZbM (cva<|ov Y) Y tZ_26 Y)<|Ra Y<|Za<|K1 1 Y<|Tr<|Rq Y (ZU (ov Y) ZP)<|Rq Y (Zd (ov Y) Qw Y)<|Rl tZ_49 Qm Y<|Ra Y<|Za<|Zg<|Ze<|K2 1 3 Y<|Tr<|Rq Y (ZU (ov Y) ZeK)<|Rq Y (Zd (ov Y) tS3 Y)<|bE h fun y h_y h=>Rq Y (Zn (QG h_y)<|.cons (ov Y) (.b Y)<|.cons (ov Y) (.b Y)<|.cons (ov Y) (.b Y) .nil)<|R1 XN Y<|Rm Y<|Rq Y (.guarded ((!y) == false) Y Y Y Y fun h => ZU (ov Y) Zjz)<|Rq Y (.guarded ((!y) == false) Y Y Y Y fun h => Zd (ow Y h) tS3 Y)<|bE h fun y2 h_y2 h=>Rq Y (.guarded ((!y) == false) Y Y Y Y fun h => Zn (QG<|gdT h_y2 h)<|.cons (ow Y h) (.b Y)<|.cons (ov Y) (.b Y)<|.cons (ov Y) (.b Y) .nil)<|Rq Y (.guarded ((!y) == false) Y Y Y Y fun h => XN<|ow Y h)<|Rq Y (Zdw (ov Y) fun hp=>ow Y<|gF hp)<|Rm Y<|Rq Y (.guarded (((!y) || (!y2)) == false) Y Y Y Y fun h => Zc<|ov Y)<|bE h fun y3 h_y3 h=>Rq Y (.guarded (((!y) || (!y2)) == false) Y Y Y Y fun h => Zn (QG<|gdT h_y3 h)<|.cons (ow Y h) (.b Y)<|.cons (ov Y) (.b Y)<|.cons (ov Y) (.b Y) .nil)<|Rq Y (.guarded (((!y) || (!y2)) == false) Y Y Y Y fun h => XN<|ow Y h)<|Rq Y (Zdw (ov Y) fun hp=>ow Y<|gF hp)<|Ra Y<|Za<|K3 1 3 9 Y<|If h Y (fun h=>?_) fun h=>?_
 ·
  refine K0<|Tr<|Ra Y<|Za<|?_
  obtain rfl := rt h
  exact Zo (ZG Y (.one<|rb Y))
 ·
  refine K2 1 3 Y<|Tr<|Rq Y (ZU (ov Y) Zfx)<|Rq Y (Zd (ov Y) ZkK Y)<|Rl tZ_3 QK Y<|Rm Y<|R2 Q2 Y<|Rm Y<|Rq Y (.guarded ((!decide ((m.Wear.length : Int) = (m.Sectors.length : Int))) == false) Y Y Y Y fun h => ZU (ov Y) ZeI)<|Rq Y (.guarded ((!decide ((m.Wear.length : Int) = (m.Sectors.length : Int))) == false) Y Y Y Y fun h => Zd (ow Y h) ZjR Y)<|Rq Y (.guarded ((!decide ((m.Wear.length : Int) = (m.Sectors.length : Int))) == false) Y Y Y Y fun h => ZjN (QD (ow Y h) tZ_4) ZgF<|Zfn _ _)<|Rq Y (.guarded ((!decide ((m.Wear.length : Int) = (m.Sectors.length : Int))) == false) Y Y Y Y fun h => Zc<|ov Y)<|Rq Y (.guarded ((!decide ((m.Wear.length : Int) = (m.Sectors.length : Int))) == false) Y Y Y Y fun h => Q2 (ow Y h)<|ow Y h)<|Rq Y (Zdw (ov Y) fun hp=>ow Y<|gF hp)<|Ra Y<|Za<|K2 1 25 Y<|If h Y (fun h=>?_) fun h=>?_
  ·
   refine K0<|Tr<|Ra Y<|Za<|?_
   obtain rfl := rt h
   exact Zo (ZG Y (.one<|rb Y))
  ·
   refine Zf<|J0 (fun j => (.inr j)) ⟨[], []⟩ h (fun h=>?_) fun h=>?_
   ·
    refine K1 1 Y<|Tr<|Rq Y (ZU (ov Y) ZP)<|Rq Y (Zd (ov Y) Qw Y)<|Rl tZ_49 Qm Y<|Rm Y<|Za<|Ze<|?_
    obtain ⟨r1, hl1, ho1⟩ := QE h
    refine L1 (fun i=>⟨[(1, .rp [.int .i64 m.Slots, .int .i64 m.Limit, .sl 49 (List.map R49 m.Sectors), .sl 3 (List.map R3 m.Wear), .sl 4 (List.map R4 m.Bad)] 0), (39, .sl 49 (List.map R49 m.Sectors)), (40, .int .i64 (m.Sectors.length : Int)), (41, .int .i64 i)], []⟩) hl1 (ES []) fun n1 i h=>?_
    unfold Qq at h
    refine Tr<|R2 ZD Y<|Za<|Zg<|If h Y (fun h=>?_) fun h=>?_
    ·
     refine Zf<|Zg<|Ze<|K4 1 39 40 41 Y<|Tr<|Rm Y<|bE h fun x h_x h=>Rq Y (ZS (ov Y) (ov Y) Qm h_x)<|Rq Y (Zd (ov Y) ZfN Y)<|Ra Y<|Ra Y<|Za<|Zg<|K6 1 4 5 39 40 41 Y<|Tr<|Rm Y<|Rl tZ_5 QF Y<|Rq Y (ZU (ov Y) ZeK)<|Rq Y (Zd (ov Y) tS3 Y)<|bE h fun y4 h_y4 h=>Rq Y (Zn (Qi h_y4)<|.cons (ov Y) (.b Y) .nil)<|R2 Q2 Y<|Za<|K6 1 4 39 40 41 51 Y<|If h Y (fun h=>?_) fun h=>?_
     ·
      refine K0<|Tr<|Ra Y<|Za<|?_
      replace h := lx h ▸ ho1
      obtain rfl := rt h
      exact Zo (ZG Y (.one<|rb Y))
     ·
      refine Zf<|Zg<|K5 1 4 39 40 41 Y<|Qd (cw := md0) (by kernel_rfl)<|Dq 0 Y (ZU (ov Y) Zfx)<|Dq 1 Y (Zd (ov Y) ZkK Y)<|D1 2 Zc Y<|bE h fun x2 h_x2 h=>Dq 3 Y (ZS (ov Y) (ov Y) QK h_x2)<|Dq 4 Y (Zd (ov Y) tS3 Y)<|Dq 5 Y (ZU (ov Y) Zjz)<|Dq 6 Y (Zd (ov Y) tS3 Y)<|bE h fun y5 h_y5 h=>Dq 7 Y (Zn (QG h_y5)<|.cons (ov Y) (.b Y)<|.cons (ov Y) (.b Y)<|.cons (ov Y) (.b Y) .nil)<|D1 8 XN Y<|Dd<|K5 1 39 40 41 60 Y<|If h Y (fun h=>?_) fun h=>?_
      ·
       refine K0<|Tr<|Ra Y<|Za<|?_
       replace h := lx h ▸ ho1
       obtain rfl := rt h
       exact Zo (ZG Y (.one<|rb Y))
      ·
       exact Zf<|K4 1 39 40 41 Y<|Zp<|R2 ZF Y<|Rm Y<|Za<|⟨_, h, ES []⟩
    ·
     refine Zz<|?_
     replace h := lx h ▸ ho1
     exact ⟨(), h, ES []⟩
   ·
    replace h := elr h
    replace h := t0i h
    refine Tr<|Ra Y<|Za<|?_
    obtain rfl := rt h
    exact Zo (ZG Y (.one<|rb Y))
theorem Zgc {sequence : Int} {r : (List Int)} (h : J9 sequence = some r) :
 CSpec Tryz.prog gl0 87 [.int .i64 sequence] (.sl 5 (List.map R5 r)) := by
 unfold J9 at h
 replace h := Qk h
 refine So Tryz.func87 Y fun w0 A=>Tr<|Ra Y<|Za<|K1 0 Y<|Tr<|Rx Y (ZjQ (r := 0) (xs := ([79, 66] : List Int)) (f := R5) Y QF (.cons (cvs (ov Y)<|Zk Y) Y (.cons (.b Y) .nil)<|.cons (cvs (ov Y)<|Zk Y) Y (.cons (.b Y) .nil) .nil) Y Y Y)<|Ra Y<|Za<|I1 (fun out=>⟨[(3, .own 0 out.length)], [some ⟨5, List.map R5 out⟩]⟩) h (fun h=>?_) fun out h=>?_
 ·
  refine K2 0 3 Y<|Tr<|Ra Y<|Za<|Ze<|?_
  obtain ⟨r1, hl1, ho1⟩ := QE h
  refine L2 (fun out2 shift=>⟨[(0, .int .i64 sequence), (3, .own 0 out2.length), (4, .int .i64 shift)], [some ⟨5, List.map R5 out2⟩]⟩) hl1 (ES [some 0]) fun n1 out2 shift h=>?_
  unfold Xc at h
  refine Zg<|Tr<|Rm Y<|R2 ZhA Y<|Za<|K4 0 3 4 9 Y<|If h Y (fun h=>?_) fun h=>?_
  ·
   exact Zf<|Zg<|Ze<|K3 0 3 4 Y<|Zp<|Rm Y<|Rm Y<|Rm Y<|bE h fun q h_q h=>Rq Y (ZaU (ov Y) (ov Y) h_q)<|Rq Y (Z4 (ov Y) tI3 tI5 Y)<|R_q (.sl 5<|List.map R5 ([(u8 q)] : List Int)) Y (Xw QF (.cons (cvs (ov Y)<|Zk Y) Y (.cons (.b Y) .nil) .nil) Y Y)<|bE h fun l h_l h=>Rx Y (Qo (ov Y) (QD (ov Y) tZ_5) QF Y Y Y (fun _=>Zb Y) Y h_l)<|Ra Y<|Za<|K3 0 3 4 Y<|Zp<|Rm Y<|R2 Za4 Y<|Ra Y<|Za<|⟨_, h, ES [some 0]⟩
  ·
   refine Zz<|?_
   replace h := lx h ▸ ho1
   exact ⟨_, h, ES [some 0]⟩
 ·
  refine I1 (fun out3=>⟨[(3, .own 0 out3.length)], [some ⟨5, List.map R5 out3⟩]⟩) h (fun h=>?_) fun out3 h=>?_
  ·
   refine Tr<|Rm Y<|bE h fun u h_u h=>Rq Y (Zo1 (ov Y) Y Y QF (oi<|ov Y) (oi<|ov Y) h_u)<|Rq Y (ZnM (ov Y) Y (List.length_map ..) QF)<|Rm Y<|Za<|Ze<|?_
   obtain ⟨r2, hl2, ho2⟩ := QE h
   refine Zol (τ := Option (List Int)) _ (fun b s=>Option.elim b (t2 (fun out4 i=>(⟨[(3, .own 0 out4.length), (20, .osl 0 out4.length (Int.toNat 2) (Int.toNat (6 - 2))), (21, .int .i64 ((Int.toNat (6 - 2) : Nat) : Int)), (22, .int .i64 i)], [some ⟨5, List.map R5 out4⟩]⟩ : St)) s) fun old2=>t2 (fun out4 i=>(⟨[(3, .own 1 out4.length), (20, .osl 0 old2.length (Int.toNat 2) (Int.toNat (6 - 2))), (21, .int .i64 ((Int.toNat (6 - 2) : Nat) : Int)), (22, .int .i64 i)], [some ⟨5, List.map R5 old2⟩, some ⟨5, List.map R5 out4⟩]⟩ : St)) s) (fun b s => ∃ tl, Option.getD b s.1 = out ++ tl) none _ hl2 Znc (Ent.sel [some 0] (sr 3 Y (.own _ Y)<|sr 20 Y (.osl _ _ _ Y)<|sd 21 Y Y<|sd 22 Y Y sn) (.cons Y (roM D5) .nil) Y Y) fun b2 n2 s2 hC h=>?_
   obtain ⟨out4, i⟩ := s2
   replace h := t2i h
   unfold Xf at h
   rcases b2 with _ | old2
   ·
    replace hC : ∃ tl, out4 = out ++ tl := hC
    show T _ _ ⟨[(3, .own 0 out4.length), (20, .osl 0 out4.length (Int.toNat 2) (Int.toNat (6 - 2))), (21, .int .i64 ((Int.toNat (6 - 2) : Nat) : Int)), (22, .int .i64 i)], [some ⟨5, List.map R5 out4⟩]⟩ _
    refine Tr<|R2 ZD Y<|Za<|Zg<|If h Y (fun h=>?_) fun h=>?_
    ·
     refine Zf<|Zg<|Ze<|K4 3 20 21 22 Y<|Tr<|bE h fun u2 h_u2 h=>bE h fun x2 h_x2 h=>?_
     have h_x2P := Zmk hC h_x2
     refine Rq Y (ZnI (ov Y) (ov Y) QF Y Y (ZhM h_u).1 h_u2 h_x2P)<|Rq Y (Qu (ov Y) Y Y h_x2P tS5 Y)<|Ra Y<|Za<|K5 3 6 20 21 22 Y<|Zp<|Rm Y<|Rm Y<|R1 ZkC Y<|R_q (.sl 5<|List.map R5 ([(ZaL .u8 255 x2)] : List Int)) Y (Xw QF (.cons (cvs (ov Y)<|Zk Y) Y (.cons (.b Y) .nil) .nil) Y Y)<|bE h fun l2 h_l2 h=>Zn5 (f := R5) (tp := 20) (ys := ([(ZaL .u8 255 x2)] : List Int)) Y (ov Y) (QD (ov Y) tZ_5) QF Y Y Y (fun _=>Zb Y) Y (fun _=>nsR Y) h_l2 Y ?_ ?_
     ·
      exact Ra Y<|Za<|K4 3 20 21 22 Y<|Zp<|R2 ZF Y<|Rm Y<|Za<|⟨none, (l2, (i64 (i + 1))), Zos hC h_l2, h, Ent.sel [some 0] (sr 3 Y (.own _ Y) <| sr 20 Y (.osl _ _ _ Y) <| sd 21 Y Y <| sd 22 Y Y <| sn) (.cons Y (roM D5) <| .nil) Y Y⟩
     ·
      exact Ra Y<|Za<|K4 3 20 21 22 Y<|Zp<|R2 ZF Y<|Rm Y<|Za<|⟨some out4, (l2, (i64 (i + 1))), hC, h, Ent.sel [some 0, some 1] (sr 3 Y (.own _ Y) <| sr 20 Y (.osl _ _ _ Y) <| sd 21 Y Y <| sd 22 Y Y <| sn) (.cons Y (roM D5) <| .cons Y (roM D5) <| .nil) Y Y⟩
    ·
     refine Zz<|?_
     replace h := lx h ▸ ho2
     exact ⟨_, h, ES [some 0]⟩
   ·
    replace hC : ∃ tl, old2 = out ++ tl := hC
    show T _ _ ⟨[(3, .own 1 out4.length), (20, .osl 0 old2.length (Int.toNat 2) (Int.toNat (6 - 2))), (21, .int .i64 ((Int.toNat (6 - 2) : Nat) : Int)), (22, .int .i64 i)], [some ⟨5, List.map R5 old2⟩, some ⟨5, List.map R5 out4⟩]⟩ _
    refine Tr<|R2 ZD Y<|Za<|Zg<|If h Y (fun h=>?_) fun h=>?_
    ·
     refine Zf<|Zg<|Ze<|K4 3 20 21 22 Y<|Tr<|bE h fun u2 h_u2 h=>bE h fun x2 h_x2 h=>?_
     have h_x2P := Zmk hC h_x2
     exact Rq Y (ZnI (ov Y) (ov Y) QF Y Y (ZhM h_u).1 h_u2 h_x2P)<|Rq Y (Qu (ov Y) Y Y h_x2P tS5 Y)<|Ra Y<|Za<|K5 3 6 20 21 22 Y<|Zp<|Rm Y<|Rm Y<|R1 ZkC Y<|R_q (.sl 5<|List.map R5 ([(ZaL .u8 255 x2)] : List Int)) Y (Xw QF (.cons (cvs (ov Y)<|Zk Y) Y (.cons (.b Y) .nil) .nil) Y Y)<|bE h fun l2 h_l2 h=>Rx Y (Qo (ov Y) (QD (ov Y) tZ_5) QF Y Y Y (fun _=>Zb Y) Y h_l2)<|Ra Y<|Za<|K4 3 20 21 22 Y<|Zp<|R2 ZF Y<|Rm Y<|Za<|⟨some old2, (l2, (i64 (i + 1))), hC, h, Ent.sel [some 0, some 1] (sr 3 Y (.own _ Y) <| sr 20 Y (.osl _ _ _ Y) <| sd 21 Y Y <| sd 22 Y Y <| sn) (.cons Y (roM D5) <| .cons Y (roM D5) <| .nil) Y Y⟩
    ·
     refine Zz<|?_
     replace h := lx h ▸ ho2
     exact ⟨_, h, ES [some 1]⟩
  ·
   refine Tr<|Rm Y<|Ra Y<|Za<|?_
   obtain rfl := rt h
   exact Zo (ZG Y (.one<|.tmp Y<|View.ownM Y Y D5))
theorem Zeq {s1 : List Int} {s2 : List Int} {r : Bool} (h : QB s1 s2 = some r) :
 CSpec Tryz.prog gl0 86 [.sl 5 (List.map R5 s1), .sl 5 (List.map R5 s2)] (.bool r) := by
 unfold QB at h
 replace h := Qk h
 refine So Tryz.func86 Y fun w0 A=>Tr<|Ra Y<|Za<|Zg<|K2 0 1 Y<|Tr<|Rm Y<|Rl tZ_5 QF Y<|Rm Y<|Rl tZ_5 QF Y<|R2 Q2 Y<|Za<|K3 0 1 10 Y<|If h Y (fun h=>?_) fun h=>?_
 ·
  refine K0<|Tr<|Ra Y<|Za<|?_
  obtain rfl := rt h
  exact Zo (ZG Y (.one<|rb Y))
 ·
  refine Zf<|J0 (fun j => (.inr j)) ⟨[], []⟩ h (fun h=>?_) fun h=>?_
  ·
   refine K2 0 1 Y<|Tr<|Rm Y<|Rl tZ_5 QF Y<|Rm Y<|Za<|Ze<|?_
   obtain ⟨r1, hl1, ho1⟩ := QE h
   refine L1 (fun i=>⟨[(0, .sl 5 (List.map R5 s1)), (1, .sl 5 (List.map R5 s2)), (12, .int .i64 (s1.length : Int)), (13, .int .i64 i)], []⟩) hl1 (ES []) fun n1 i h=>?_
   unfold QA at h
   refine Tr<|R2 ZD Y<|Za<|Zg<|If h Y (fun h=>?_) fun h=>?_
   ·
    refine Zf<|Zg<|Ze<|K4 0 1 12 13 Y<|Tr<|Rm Y<|Ra Y<|Za<|Zg<|K5 0 1 5 12 13 Y<|Qd (cw := md0) (by kernel_rfl)<|D1 0 Zc Y<|D1 1 Zc Y<|bE h fun x h_x h=>Dq 2 Y (ZS (ov Y) (ov Y) QF h_x)<|Dq 3 Y (Zd (ov Y) tS5 Y)<|D1 4 Zc Y<|D1 5 Zc Y<|bE h fun x2 h_x2 h=>Dq 6 Y (ZS (ov Y) (ov Y) QF h_x2)<|Dq 7 Y (Zd (ov Y) tS5 Y)<|D2 8 Q2 Y<|Dd<|K5 0 1 12 13 24 Y<|If h Y (fun h=>?_) fun h=>?_
    ·
     refine K0<|Tr<|Ra Y<|Za<|?_
     replace h := lx h ▸ ho1
     obtain rfl := rt h
     exact Zo (ZG Y (.one<|rb Y))
    ·
     exact Zf<|K4 0 1 12 13 Y<|Zp<|R2 ZF Y<|Rm Y<|Za<|⟨_, h, ES []⟩
   ·
    refine Zz<|?_
    replace h := lx h ▸ ho1
    exact ⟨(), h, ES []⟩
  ·
   replace h := elr h
   replace h := t0i h
   refine Tr<|Ra Y<|Za<|?_
   obtain rfl := rt h
   exact Zo (ZG Y (.one<|rb Y))
theorem Zb6 {s : List Int} {r : Int × Bool × Bool} (h : JV s = some r) :
 CSpec Tryz.prog gl0 34 [.sl 5 (List.map R5 s)] (.tuple [.int .i64 r.1, .bool r.2.1, .bool r.2.2]) := by
 unfold JV at h
 replace h := Qk h
 refine So Tryz.func34 Y fun w0 A=>Tr<|Ra Y<|Ra Y<|Ra Y<|Za<|Zg<|K1 0 Y<|Tr<|Rm Y<|Rl tZ_5 QF Y<|R2 ZD Y<|Za<|K2 0 9 Y<|If h Y (fun h=>?_) fun h=>?_
 ·
  refine K0<|Tr<|Ra Y<|Ra Y<|Ra Y<|Za<|?_
  obtain rfl := rt h
  exact Zo (ZG Y (.three (rb Y) (rb Y)<|rb Y))
 ·
  refine Zf<|K1 0 Y<|Tr<|Rm Y<|bE h fun l h_l h=>Rq Y (Zgj (ov Y) QF on (oi<|ov Y) h_l)<|bE h fun v h_v h=>Rq Y (Zlv (f := C5) (ov Y) Zjf tZ_5 Y h_v)<|Ra Y<|Za<|Zg<|K1 5 Y<|Qd (cw := md0) (by kernel_rfl)<|D1 0 Zc Y<|D1 1 ZQ Y<|bE h fun x h_x h=>Dq 2 Y (QM (ov Y) (ov Y) Zjf h_x)<|Dq 3 Y (Zd (ov Y) tS5<|Qn<|Xe (o := 0) (o' := ((Int.toNat 2) * 1)) (Zq arL)<|Q9 h_x)<|Dq 4 Y (Z4 (ov Y) tI5 tI3 Y)<|bE h fun q h_q h=>Dq 5 Y (Ze9 (ov Y) (ov Y) h_q)<|D1 6 Zc Y<|D1 7 ZQ Y<|bE h fun x2 h_x2 h=>Dq 8 Y (QM (ov Y) (ov Y) Zjf h_x2)<|Dq 9 Y (Zd (ov Y) tS5<|Qn<|Xe (o := 0) (o' := ((Int.toNat 3) * 1)) (Zq arL)<|Q9 h_x2)<|Dq 10 Y (Z4 (ov Y) tI5 tI3 Y)<|bE h fun q2 h_q2 h=>Dq 11 Y (Ze9 (ov Y) (ov Y) h_q2)<|D2 12 ZgQ Y<|D1 13 Zc Y<|D1 14 ZQ Y<|bE h fun x3 h_x3 h=>Dq 15 Y (QM (ov Y) (ov Y) Zjf h_x3)<|Dq 16 Y (Zd (ov Y) tS5<|Qn<|Xe (o := 0) (o' := ((Int.toNat 4) * 1)) (Zq arL)<|Q9 h_x3)<|Dq 17 Y (Z4 (ov Y) tI5 tI3 Y)<|bE h fun q3 h_q3 h=>Dq 18 Y (Ze9 (ov Y) (ov Y) h_q3)<|D2 19 ZgQ Y<|D1 20 Zc Y<|D1 21 ZQ Y<|bE h fun x4 h_x4 h=>Dq 22 Y (QM (ov Y) (ov Y) Zjf h_x4)<|Dq 23 Y (Zd (ov Y) tS5<|Qn<|Xe (o := 0) (o' := ((Int.toNat 5) * 1)) (Zq arL)<|Q9 h_x4)<|Dq 24 Y (Z4 (ov Y) tI5 tI3 Y)<|D2 25 ZgQ Y<|D1 26 Qp Y<|Dd<|Zg<|Zg<|K2 5 6 Y<|Qd (cw := md0) (by kernel_rfl)<|D1 0 Zc Y<|bE h fun y h_y h=>Dq 1 Y (Zn (QG h_y)<|.cons (ov Y) (.b Y)<|.cons (ov Y) (.b Y)<|.cons (ov Y) (.b Y) .nil)<|D1 2 XN Y<|D1 3 Zc Y<|Dq 4 Y (.guarded ((!y) == false) Y Y Y Y fun h => Zc<|ov Y)<|Dq 5 Y (.guarded ((!y) == false) Y Y Y Y fun h => ZQ<|ow Y h)<|bE h fun l2 h_l2 h=>Dq 6 Y (.guarded ((!y) == false) Y Y Y Y fun h => Zl2 (f := C5) (ow Y h) Zjf tZ_5 (Zq arL) Y on (oi<|ov Y)<|gdT h_l2 h)<|Dq 7 Y (.guarded ((!y) == false) Y Y Y Y fun h => Zc<|ov Y)<|bE h fun y2 h_y2 h=>Dq 8 Y (.guarded ((!y) == false) Y Y Y Y fun h => Zn (Zgc<|gdT h_y2 h)<|.cons (ow Y h) (.b Y) .nil)<|bE h fun y3 h_y3 h=>Dq 9 Y (.guarded ((!y) == false) Y Y Y Y fun h => Zn (Zeq<|gdT h_y3 h)<|.cons (ow Y h) (.b Y)<|.cons (ow Y h) (.b Y) .nil)<|Dq 10 Y (.guarded ((!y) == false) Y Y Y Y fun h => XN<|ow Y h)<|Dq 11 Y (Zdw (ov Y) fun hp=>ow Y<|gF hp)<|Dd<|K3 5 6 50 Y<|If h Y (fun h=>?_) fun h=>?_
  ·
   refine K0<|Tr<|Ra Y<|Ra Y<|Ra Y<|Za<|?_
   obtain rfl := rt h
   exact Zo (ZG Y (.three (rb Y) (rb Y)<|rb Y))
  ·
   refine Zf<|Zg<|K2 5 6 Y<|Qd (cw := md0) (by kernel_rfl)<|D1 0 Zc Y<|D1 1 Zc Y<|D1 2 ZQ Y<|bE h fun x5 h_x5 h=>Dq 3 Y (QM (ov Y) (ov Y) Zjf h_x5)<|Dq 4 Y (Zd (ov Y) tS5<|Qn<|Xe (o := 0) (o' := ((Int.toNat 10) * 1)) (Zq arL)<|Q9 h_x5)<|D2 5 Q2 Y<|D1 6 Qp Y<|D1 7 Qp Y<|D1 8 Qp Y<|Dd<|?_
   obtain rfl := rt h
   exact Zo (ZG Y (.three (rb Y) (rb Y)<|rb Y))
theorem Jc {data : List Int} {a : Int} {b : Int} {cmp : Int → Int → Option Int} {r : (List Int)} {cmp_f : FuncId} {cmp_c : List AV} (cmp_d : cmp_c.all datB = true) (cmp_h : ∀ (z0 : Int) (z1 : Int) z, cmp z0 z1 = some z → CSpec Tryz.prog gl0 cmp_f ([.int .i64 z0, .int .i64 z1] ++ cmp_c) (.int .i64 z)) (h : Zy data a b cmp = some r) :
 GSpec Tryz.prog gl0 155 [.own 0 data.length, .int .i64 a, .int .i64 b, .fn cmp_f cmp_c] [some ⟨3, List.map R3 data⟩] (.tuple []) [some ⟨3, List.map R3 r⟩] := by
 unfold Zy at h
 replace h := Qk h
 refine QZ (by kernel_rfl) Tryz.func155 Y Y<|?_
 intro w0 A W φ0
 refine Tr<|Rm Y<|R2 ZF Y<|Ra Y<|Za<|Ze<|?_
 obtain ⟨r1, hl1, ho1⟩ := QE h
 refine L2 (fun o i=>⟨[(0, .own 0 o.length), (1, .int .i64 a), (2, .int .i64 b), (3, .fn cmp_f cmp_c), (8, .int .i64 i)], [some ⟨3, List.map R3 o⟩]⟩) hl1 (ES [some 0]<|sr 0 Y (.own _ Y)<|sd 1 Y Y<|sd 2 Y Y<|sr 3 Y (rFn<|rld cmp_d)<|sd 8 Y Y sn) fun n1 o i h=>?_
 unfold Zu at h
 refine Zg<|Tr<|Rm Y<|Rm Y<|R2 ZD Y<|Za<|K6 0 1 2 3 8 14 Y<|If h Y (fun h=>?_) fun h=>?_
 ·
  refine Zf<|I1 (fun o2=>⟨[(0, .own 0 o2.length), (1, .int .i64 a), (2, .int .i64 b), (3, .fn cmp_f cmp_c), (8, .int .i64 i)], [some ⟨3, List.map R3 o2⟩]⟩) h (fun h=>?_) fun o2 h=>?_
  ·
   refine Ze<|K5 0 1 2 3 8 Y<|Tr<|Rm Y<|Ra Y<|Za<|Ze<|?_
   obtain ⟨r2, hl2, ho2⟩ := QE h
   refine L2 (fun o3 j=>⟨[(0, .own 0 o3.length), (1, .int .i64 a), (2, .int .i64 b), (3, .fn cmp_f cmp_c), (8, .int .i64 i), (9, .int .i64 j)], [some ⟨3, List.map R3 o3⟩]⟩) hl2 (ES [some 0]<|sr 0 Y (.own _ Y)<|sd 1 Y Y<|sd 2 Y Y<|sr 3 Y (rFn<|rld cmp_d)<|sd 8 Y Y<|sd 9 Y Y sn) fun n2 o3 j h=>?_
   unfold Zx at h
   refine Zg<|Zg<|Qd (cw := md0) (by kernel_rfl)<|D1 0 Zc Y<|D1 1 Zc Y<|D2 2 Za8 Y<|D1 3 Zc Y<|Dq 4 Y (.guarded ((decide (a < j)) == true) Y Y Y Y fun h => Zc<|ov Y)<|Dq 5 Y (.guarded ((decide (a < j)) == true) Y Y Y Y fun h => Zc<|ov Y)<|Dq 6 Y (.guarded ((decide (a < j)) == true) Y Y Y Y fun h => Zc<|ov Y)<|bE h fun x h_x h=>Dq 7 Y (.guarded ((decide (a < j)) == true) Y Y Y Y fun h => Qh (ow Y h) (ow Y h) QK Y Y<|gdT h_x h)<|Dq 8 Y (.guarded ((decide (a < j)) == true) Y Y Y Y fun h => Qu (ow Y h) Y Y (gdT h_x h) tS3 Y)<|Dq 9 Y (.guarded ((decide (a < j)) == true) Y Y Y Y fun h => Zc<|ov Y)<|Dq 10 Y (.guarded ((decide (a < j)) == true) Y Y Y Y fun h => Zc<|ov Y)<|Dq 11 Y (.guarded ((decide (a < j)) == true) Y Y Y Y fun h => ZlT (ow Y h) (ov Y) Y)<|bE h fun x2 h_x2 h=>Dq 12 Y (.guarded ((decide (a < j)) == true) Y Y Y Y fun h => Qh (ow Y h) (ow Y h) QK Y Y<|gdT h_x2 h)<|Dq 13 Y (.guarded ((decide (a < j)) == true) Y Y Y Y fun h => Qu (ow Y h) Y Y (gdT h_x2 h) tS3 Y)<|bE h fun y h_y h=>Dq 14 Y (.guarded ((decide (a < j)) == true) Y Y Y Y fun h => Zfw (ow Y h) cmp_d (cmp_h _ _ _<|gdT h_y h)<|.cons (ow Y h) (.b Y)<|.cons (ow Y h) (.b Y) .nil)<|Dq 15 Y (.guarded ((decide (a < j)) == true) Y Y Y Y fun h => ZD (ow Y h)<|ov Y)<|Dq 16 Y (Zb4 (ov Y) fun hp=>ow Y<|gT hp)<|Dd<|K7 0 1 2 3 8 9 34 Y<|If h Y (fun h=>?_) fun h=>?_
   ·
    exact Zf<|Zg<|Ze<|K6 0 1 2 3 8 9 Y<|Qd (cw := md0) (by kernel_rfl)<|D1 0 Zc Y<|D1 1 Zc Y<|D1 5 Zc Y<|D1 6 Zc Y<|D2 7 Za4 Y<|bE h fun x3 h_x3 h=>Dq 8 Y (Qh (ov Y) (ov Y) QK Y Y h_x3)<|Dq 9 Y (Qu (ov Y) Y Y h_x3 tS3 Y)<|D1 10 Zc Y<|D1 11 Zc Y<|bE h fun x4 h_x4 h=>Dq 12 Y (Qh (ov Y) (ov Y) QK Y Y h_x4)<|Dq 13 Y (Qu (ov Y) Y Y h_x4 tS3 Y)<|bE h fun x5 h_x5 h=>Dq 14 Y (Qh (ov Y) (ov Y) QK Y Y h_x5)<|Qc 2 _ Y (by kernel_rfl) Y Y (fun hp'=>Zc<|ov Y)<|Qc 3 _ Y (by kernel_rfl) Y Y (fun hp'=>Zc<|ov Y)<|Qc 4 _ Y (by kernel_rfl) Y Y (fun hp'=>ZlT (ov Y) (ov Y) Y)<|Do 15 Y (Xo (u' := x3) (ov Y) (ov Y) (Zh tS3) Y Y h_x5 Y (Zb Y) Y)<|bE h fun x6 h_x6 h=>Dq 16 Y (Qh (ov Y) (ov Y) QK Y ((List.length_set ..).trans Y) h_x6)<|Do 17 Y (Xo (u' := x4) (ov Y) (ov Y) (Zh tS3) Y ((List.length_set ..).trans Y) h_x6 Y (Zb Y) Y)<|Dd<|K6 0 1 2 3 8 9 Y<|Zp<|Rm Y<|R2 Za4 Y<|Ra Y<|Za<|⟨_, h, ES [some 0]<|sr 0 Y (Zdv (Eq.symm<|(List.length_set ..).trans<|(List.length_set ..).trans Y) Y)<|sd 1 Y Y<|sd 2 Y Y<|sr 3 Y (rFn<|rld cmp_d)<|sd 8 Y Y<|sd 9 Y Y sn⟩
   ·
    refine Zz<|?_
    replace h := lx h ▸ ho2
    exact ⟨_, h, ES [some 0]<|sr 0 Y (.own _ Y)<|sd 1 Y Y<|sd 2 Y Y<|sr 3 Y (rFn<|rld cmp_d)<|sd 8 Y Y sn⟩
  ·
   exact Zp<|Rm Y<|R2 ZF Y<|Ra Y<|Za<|⟨_, h, ES [some 0]<|sr 0 Y (.own _ Y)<|sd 1 Y Y<|sd 2 Y Y<|sr 3 Y (rFn<|rld cmp_d)<|sd 8 Y Y sn⟩
 ·
  refine Zz<|?_
  replace h := lx h ▸ ho1
  obtain rfl := rt h
  exact ZgV [some 0] Y .nil (.cons Y (roM D3) .nil) Y Y<|Xz rln
theorem Xq {data : List Int} {a : Int} {b : Int} {n : Int} {cmp : Int → Int → Option Int} {r : (List Int)} {cmp_f : FuncId} {cmp_c : List AV} (cmp_d : cmp_c.all datB = true) (cmp_h : ∀ (z0 : Int) (z1 : Int) z, cmp z0 z1 = some z → CSpec Tryz.prog gl0 cmp_f ([.int .i64 z0, .int .i64 z1] ++ cmp_c) (.int .i64 z)) (h : ZJ data a b n cmp = some r) :
 GSpec Tryz.prog gl0 166 [.own 0 data.length, .int .i64 a, .int .i64 b, .int .i64 n, .fn cmp_f cmp_c] [some ⟨3, List.map R3 data⟩] (.tuple []) [some ⟨3, List.map R3 r⟩] := by
 unfold ZJ at h
 replace h := Qk h
 refine QZ (by kernel_rfl) Tryz.func166 Y Y<|?_
 intro w0 A W φ0
 refine K4 0 1 2 3 Y<|Tr<|Ra Y<|Za<|Ze<|?_
 obtain ⟨r1, hl1, ho1⟩ := QE h
 refine L2 (fun o i=>⟨[(0, .own 0 o.length), (1, .int .i64 a), (2, .int .i64 b), (3, .int .i64 n), (10, .int .i64 i)], [some ⟨3, List.map R3 o⟩]⟩) hl1 (ES [some 0]) fun n1 o i h=>?_
 unfold ZX at h
 refine Zg<|Tr<|Rm Y<|Rm Y<|R2 ZD Y<|Za<|K6 0 1 2 3 10 13 Y<|If h Y (fun h=>?_) fun h=>?_
 ·
  exact Zf<|Zg<|Ze<|K5 0 1 2 3 10 Y<|Qd (cw := md0) (by kernel_rfl)<|D1 0 Zc Y<|D1 1 Zc Y<|D1 2 Zc Y<|D2 3 ZF Y<|D1 8 Zc Y<|D1 9 Zc Y<|D1 10 Zc Y<|D2 11 ZF Y<|bE h fun x h_x h=>Dq 12 Y (Qh (ov Y) (ov Y) QK Y Y h_x)<|Dq 13 Y (Qu (ov Y) Y Y h_x tS3 Y)<|D1 14 Zc Y<|D1 15 Zc Y<|D1 16 Zc Y<|D2 17 ZF Y<|bE h fun x2 h_x2 h=>Dq 18 Y (Qh (ov Y) (ov Y) QK Y Y h_x2)<|Dq 19 Y (Qu (ov Y) Y Y h_x2 tS3 Y)<|bE h fun x3 h_x3 h=>Dq 20 Y (Qh (ov Y) (ov Y) QK Y Y h_x3)<|Qc 4 _ Y (by kernel_rfl) Y Y (fun hp'=>Zc<|ov Y)<|Qc 5 _ Y (by kernel_rfl) Y Y (fun hp'=>Zc<|ov Y)<|Qc 6 _ Y (by kernel_rfl) Y Y (fun hp'=>Zc<|ov Y)<|Qc 7 _ Y (by kernel_rfl) Y Y (fun hp'=>Zke (ov Y) (ov Y) Y)<|Do 21 Y (Xo (u' := x) (ov Y) (ov Y) (Zh tS3) Y Y h_x3 Y (Zb Y) Y)<|bE h fun x4 h_x4 h=>Dq 22 Y (Qh (ov Y) (ov Y) QK Y ((List.length_set ..).trans Y) h_x4)<|Do 23 Y (Xo (u' := x2) (ov Y) (ov Y) (Zh tS3) Y ((List.length_set ..).trans Y) h_x4 Y (Zb Y) Y)<|Dd<|K5 0 1 2 3 10 Y<|Zp<|Rm Y<|R2 ZF Y<|Ra Y<|Za<|⟨_, h, ES [some 0]<|sr 0 Y (Zdv (Eq.symm<|(List.length_set ..).trans<|(List.length_set ..).trans Y) Y)<|sd 1 Y Y<|sd 2 Y Y<|sd 3 Y Y<|sd 10 Y Y sn⟩
 ·
  refine Zz<|?_
  replace h := lx h ▸ ho1
  obtain rfl := rt h
  exact ZgV [some 0] Y .nil (.cons Y (roM D3) .nil) Y Y<|Xz rln
theorem ZdW {data : List Int} {a : Int} {m : Int} {b : Int} {cmp : Int → Int → Option Int} {r : (List Int)} {cmp_f : FuncId} {cmp_c : List AV} (cmp_d : cmp_c.all datB = true) (cmp_h : ∀ (z0 : Int) (z1 : Int) z, cmp z0 z1 = some z → CSpec Tryz.prog gl0 cmp_f ([.int .i64 z0, .int .i64 z1] ++ cmp_c) (.int .i64 z)) (h : Qb data a m b cmp = some r) :
 GSpec Tryz.prog gl0 164 [.own 0 data.length, .int .i64 a, .int .i64 m, .int .i64 b, .fn cmp_f cmp_c] [some ⟨3, List.map R3 data⟩] (.tuple []) [some ⟨3, List.map R3 r⟩] := by
 unfold Qb at h
 replace h := Qk h
 refine QZ (by kernel_rfl) Tryz.func164 Y Y<|?_
 intro w0 A W φ0
 refine Tr<|Rm Y<|Rm Y<|R2 Za4 Y<|Ra Y<|Za<|K5 0 2 3 4 10 Y<|Tr<|Rm Y<|Rm Y<|R2 Za4 Y<|Ra Y<|Za<|I2 (fun o i=>⟨[(0, .own 0 o.length), (2, .int .i64 m), (4, .fn cmp_f cmp_c), (10, .int .i64 i)], [some ⟨3, List.map R3 o⟩]⟩) h (fun h=>?_) fun o i h=>?_
 ·
  refine Ze<|?_
  obtain ⟨r1, hl1, ho1⟩ := QE h
  refine L3 (fun o2 i2 j=>⟨[(0, .own 0 o2.length), (2, .int .i64 m), (4, .fn cmp_f cmp_c), (10, .int .i64 i2), (11, .int .i64 j)], [some ⟨3, List.map R3 o2⟩]⟩) hl1 (ES [some 0]<|sr 0 Y (.own _ Y)<|sd 2 Y Y<|sr 4 Y (rFn<|rld cmp_d)<|sd 10 Y Y<|sd 11 Y Y sn) fun n1 o2 i2 j h=>?_
  unfold Z7 at h
  refine Zg<|Tr<|Rm Y<|Rm Y<|R2 Q2 Y<|Za<|K6 0 2 4 10 11 20 Y<|If h Y (fun h=>?_) fun h=>?_
  ·
   refine Zf<|Ze<|K5 0 2 4 10 11 Y<|Tr<|Rm Y<|Rm Y<|R2 Za8 Y<|Za<|K6 0 2 4 10 11 23 Y<|If h Y (fun h=>?_) fun h=>?_
   ·
    exact K5 0 2 4 10 11 Y<|Tr<|Rm Y<|Rm Y<|Rm Y<|R2 Za4 Y<|Rm Y<|Rm Y<|Rm Y<|bE h fun y h_y h=>Rx Y (ZO [0] (Xq cmp_d cmp_h h_y) (.cons (ov Y) (.own _ Y)<|.cons (ov Y) (.dat Y)<|.cons (ov Y) (.dat Y)<|.cons (ov Y) (.dat Y)<|.cons (ov Y) (rFn<|rld cmp_d) .nil) (.cons Y (roM D3) .nil) Y (.lent 0 (.inl Y) Y (roM D3) .nil) Y Y<|Xz<|rld Y)<|Za<|K5 0 2 4 10 11 Y<|Zp<|Rm Y<|Rm Y<|R2 Za4 Y<|Ra Y<|Za<|⟨_, h, ES [some 0]<|sr 0 Y (Zdv (Eq.symm<|Qv h_y) Y)<|sd 2 Y Y<|sr 4 Y (rFn<|rld cmp_d)<|sd 10 Y Y<|sd 11 Y Y sn⟩
   ·
    exact K5 0 2 4 10 11 Y<|Tr<|Rm Y<|Rm Y<|Rm Y<|R2 Za4 Y<|Rm Y<|Rm Y<|R2 ZF Y<|Rm Y<|R2 Za4 Y<|Rm Y<|Rm Y<|bE h fun y2 h_y2 h=>Rx Y (ZO [0] (Xq cmp_d cmp_h h_y2) (.cons (ov Y) (.own _ Y)<|.cons (ov Y) (.dat Y)<|.cons (ov Y) (.dat Y)<|.cons (ov Y) (.dat Y)<|.cons (ov Y) (rFn<|rld cmp_d) .nil) (.cons Y (roM D3) .nil) Y (.lent 0 (.inl Y) Y (roM D3) .nil) Y Y<|Xz<|rld Y)<|Za<|K5 0 2 4 10 11 Y<|Zp<|Rm Y<|Rm Y<|R2 Za4 Y<|Ra Y<|Za<|⟨_, h, ES [some 0]<|sr 0 Y (Zdv (Eq.symm<|Qv h_y2) Y)<|sd 2 Y Y<|sr 4 Y (rFn<|rld cmp_d)<|sd 10 Y Y<|sd 11 Y Y sn⟩
  ·
   refine Zz<|?_
   replace h := lx h ▸ ho1
   exact ⟨_, h, ES [some 0]<|sr 0 Y (.own _ Y)<|sd 2 Y Y<|sr 4 Y (rFn<|rld cmp_d)<|sd 10 Y Y sn⟩
 ·
  refine Zp<|Rm Y<|Rm Y<|Rm Y<|R2 Za4 Y<|Rm Y<|Rm Y<|Rm Y<|bE h fun y3 h_y3 h=>Rx Y (ZO [0] (Xq cmp_d cmp_h h_y3) (.cons (ov Y) (.own _ Y)<|.cons (ov Y) (.dat Y)<|.cons (ov Y) (.dat Y)<|.cons (ov Y) (.dat Y)<|.cons (ov Y) (rFn<|rld cmp_d) .nil) (.cons Y (roM D3) .nil) Y (.lent 0 (.inl Y) Y (roM D3) .nil) Y Y<|Xz<|rld Y)<|Za<|?_
  obtain rfl := rt h
  exact ZgV [some 0] Y .nil (.cons Y (roM D3) .nil) Y Y<|Xz rln
theorem ZcB {rec_ : List Int → Int → Int → Int → (Int → Int → Option Int) → Option (List Int)} {data : List Int} {a : Int} {m : Int} {b : Int} {cmp : Int → Int → Option Int} {r : (List Int)} {cmp_f : FuncId} {cmp_c : List AV} (cmp_d : cmp_c.all datB = true) (cmp_h : ∀ (z0 : Int) (z1 : Int) z, cmp z0 z1 = some z → CSpec Tryz.prog gl0 cmp_f ([.int .i64 z0, .int .i64 z1] ++ cmp_c) (.int .i64 z)) (ln_rec_ : ∀ {data : List Int} {a : Int} {m : Int} {b : Int} {cmp : Int → Int → Option Int} {r : (List Int)}, rec_ data a m b cmp = some r → r.length = data.length) (hrec : ∀ {data : List Int} {a : Int} {m : Int} {b : Int} {cmp : Int → Int → Option Int} {r : (List Int)} {cmp_f : FuncId} {cmp_c : List AV} (cmp_d : cmp_c.all datB = true) (cmp_h : ∀ (z0 : Int) (z1 : Int) z, cmp z0 z1 = some z → CSpec Tryz.prog gl0 cmp_f ([.int .i64 z0, .int .i64 z1] ++ cmp_c) (.int .i64 z)) (h : rec_ data a m b cmp = some r), GSpec Tryz.prog gl0 156 [.own 0 data.length, .int .i64 a, .int .i64 m, .int .i64 b, .fn cmp_f cmp_c] [some ⟨3, List.map R3 data⟩] (.tuple []) [some ⟨3, List.map R3 r⟩]) (h : Z5 rec_ data a m b cmp = some r) :
 GSpec Tryz.prog gl0 156 [.own 0 data.length, .int .i64 a, .int .i64 m, .int .i64 b, .fn cmp_f cmp_c] [some ⟨3, List.map R3 data⟩] (.tuple []) [some ⟨3, List.map R3 r⟩] := by
 unfold Z5 at h
 replace h := Qk h
 refine QZ (by kernel_rfl) Tryz.func156 Y Y<|?_
 intro w0 A W φ0
 refine Zg<|Tr<|Rm Y<|Rm Y<|R2 Za4 Y<|R2 Zaw Y<|Za<|K6 0 1 2 3 4 28 Y<|If h Y (fun h=>?_) fun h=>?_
 ·
  refine K5 0 1 2 3 4 Y<|Tr<|Rm Y<|Ra Y<|Za<|K5 0 1 3 4 10 Y<|Tr<|Rm Y<|Ra Y<|Za<|I1 (fun i=>⟨[(0, .own 0 data.length), (1, .int .i64 a), (10, .int .i64 i)], [some ⟨3, List.map R3 data⟩]⟩) h (fun h=>?_) fun i h=>?_
  ·
   refine Ze<|?_
   obtain ⟨r1, hl1, ho1⟩ := QE h
   refine L2 (fun i2 j=>⟨[(0, .own 0 data.length), (1, .int .i64 a), (4, .fn cmp_f cmp_c), (10, .int .i64 i2), (11, .int .i64 j)], [some ⟨3, List.map R3 data⟩]⟩) hl1 (ES [some 0]<|sr 0 Y (.own _ Y)<|sd 1 Y Y<|sr 4 Y (rFn<|rld cmp_d)<|sd 10 Y Y<|sd 11 Y Y sn) fun n1 i2 j h=>?_
   unfold Qg at h
   refine Zg<|Tr<|Rm Y<|Rm Y<|R2 ZD Y<|Za<|K6 0 1 4 10 11 33 Y<|If h Y (fun h=>?_) fun h=>?_
   ·
    refine Zf<|Ze<|K5 0 1 4 10 11 Y<|Tr<|Rm Y<|Rm Y<|R2 ZF Y<|Rq Y (Z4 (ov Y) tI3 Zgr Y)<|bE h fun q h_q h=>Rq Y (ZaU (ov Y) (ov Y) h_q)<|Rq Y (Z4 (ov Y) Zgr tI3 Y)<|Ra Y<|Za<|Zg<|K6 0 1 4 10 11 12 Y<|Qd (cw := md0) (by kernel_rfl)<|D1 0 Zc Y<|D1 1 Zc Y<|D1 2 Zc Y<|bE h fun x h_x h=>Dq 3 Y (Qh (ov Y) (ov Y) QK Y Y h_x)<|Dq 4 Y (Qu (ov Y) Y Y h_x tS3 Y)<|D1 5 Zc Y<|D1 6 Zc Y<|bE h fun x2 h_x2 h=>Dq 7 Y (Qh (ov Y) (ov Y) QK Y Y h_x2)<|Dq 8 Y (Qu (ov Y) Y Y h_x2 tS3 Y)<|bE h fun y h_y h=>Dq 9 Y (Zfw (ov Y) cmp_d (cmp_h _ _ _ h_y)<|.cons (ov Y) (.b Y)<|.cons (ov Y) (.b Y) .nil)<|D2 10 ZD Y<|Dd<|K7 0 1 4 10 11 12 50 Y<|If h Y (fun h=>?_) fun h=>?_
    ·
     exact K6 0 1 4 10 11 12 Y<|Zp<|Rm Y<|R2 ZF Y<|Ra Y<|Za<|⟨_, h, ES [some 0]<|sr 0 Y (.own _ Y)<|sd 1 Y Y<|sr 4 Y (rFn<|rld cmp_d)<|sd 10 Y Y<|sd 11 Y Y sn⟩
    ·
     exact K6 0 1 4 10 11 12 Y<|Zp<|Rm Y<|Ra Y<|Za<|⟨_, h, ES [some 0]<|sr 0 Y (.own _ Y)<|sd 1 Y Y<|sr 4 Y (rFn<|rld cmp_d)<|sd 10 Y Y<|sd 11 Y Y sn⟩
   ·
    refine Zz<|?_
    replace h := lx h ▸ ho1
    exact ⟨_, h, ES [some 0]⟩
  ·
   refine I1 (fun o=>⟨[], [some ⟨3, List.map R3 o⟩]⟩) h (fun h=>?_) fun o h=>?_
   ·
    refine Tr<|Rm Y<|Ra Y<|Za<|Ze<|?_
    obtain ⟨r2, hl2, ho2⟩ := QE h
    refine L2 (fun o2 k=>⟨[(0, .own 0 o2.length), (10, .int .i64 i), (13, .int .i64 k)], [some ⟨3, List.map R3 o2⟩]⟩) hl2 (ES [some 0]) fun n2 o2 k h=>?_
    unfold ZM at h
    refine Zg<|Tr<|Rm Y<|Rm Y<|R2 Za4 Y<|R2 ZD Y<|Za<|K4 0 10 13 58 Y<|If h Y (fun h=>?_) fun h=>?_
    ·
     exact Zf<|Zg<|Ze<|K3 0 10 13 Y<|Qd (cw := md0) (by kernel_rfl)<|D1 0 Zc Y<|D1 1 Zc Y<|D1 5 Zc Y<|D1 6 Zc Y<|D2 7 ZF Y<|bE h fun x3 h_x3 h=>Dq 8 Y (Qh (ov Y) (ov Y) QK Y Y h_x3)<|Dq 9 Y (Qu (ov Y) Y Y h_x3 tS3 Y)<|D1 10 Zc Y<|D1 11 Zc Y<|bE h fun x4 h_x4 h=>Dq 12 Y (Qh (ov Y) (ov Y) QK Y Y h_x4)<|Dq 13 Y (Qu (ov Y) Y Y h_x4 tS3 Y)<|bE h fun x5 h_x5 h=>Dq 14 Y (Qh (ov Y) (ov Y) QK Y Y h_x5)<|Qc 2 _ Y (by kernel_rfl) Y Y (fun hp'=>Zc<|ov Y)<|Qc 3 _ Y (by kernel_rfl) Y Y (fun hp'=>Zc<|ov Y)<|Qc 4 _ Y (by kernel_rfl) Y Y (fun hp'=>Zke (ov Y) (ov Y) Y)<|Do 15 Y (Xo (u' := x3) (ov Y) (ov Y) (Zh tS3) Y Y h_x5 Y (Zb Y) Y)<|bE h fun x6 h_x6 h=>Dq 16 Y (Qh (ov Y) (ov Y) QK Y ((List.length_set ..).trans Y) h_x6)<|Do 17 Y (Xo (u' := x4) (ov Y) (ov Y) (Zh tS3) Y ((List.length_set ..).trans Y) h_x6 Y (Zb Y) Y)<|Dd<|K3 0 10 13 Y<|Zp<|Rm Y<|R2 ZF Y<|Ra Y<|Za<|⟨_, h, ES [some 0]<|sr 0 Y (Zdv (Eq.symm<|(List.length_set ..).trans<|(List.length_set ..).trans Y) Y)<|sd 10 Y Y<|sd 13 Y Y sn⟩
    ·
     refine Zz<|?_
     replace h := lx h ▸ ho2
     exact ⟨_, h, ES [some 0]⟩
   ·
    obtain rfl := rt h
    exact Zo<|ZbQ [some 0] Y .nil (.cons Y (roM D3) .nil) Y Y<|Xz rln
 ·
  refine Zf<|Zg<|K5 0 1 2 3 4 Y<|Tr<|Rm Y<|Rm Y<|R2 Za4 Y<|R2 Zaw Y<|Za<|K6 0 1 2 3 4 80 Y<|If h Y (fun h=>?_) fun h=>?_
  ·
   refine K4 0 1 2 4 Y<|Tr<|Rm Y<|Ra Y<|Za<|K4 0 2 4 14 Y<|Tr<|Rm Y<|Ra Y<|Za<|I1 (fun i3=>⟨[(0, .own 0 data.length), (2, .int .i64 m), (14, .int .i64 i3)], [some ⟨3, List.map R3 data⟩]⟩) h (fun h=>?_) fun i3 h=>?_
   ·
    refine Ze<|?_
    obtain ⟨r3, hl3, ho3⟩ := QE h
    refine L2 (fun i4 j2=>⟨[(0, .own 0 data.length), (2, .int .i64 m), (4, .fn cmp_f cmp_c), (14, .int .i64 i4), (15, .int .i64 j2)], [some ⟨3, List.map R3 data⟩]⟩) hl3 (ES [some 0]<|sr 0 Y (.own _ Y)<|sd 2 Y Y<|sr 4 Y (rFn<|rld cmp_d)<|sd 14 Y Y<|sd 15 Y Y sn) fun n3 i4 j2 h=>?_
    unfold Qf at h
    refine Zg<|Tr<|Rm Y<|Rm Y<|R2 ZD Y<|Za<|K6 0 2 4 14 15 85 Y<|If h Y (fun h=>?_) fun h=>?_
    ·
     refine Zf<|Ze<|K5 0 2 4 14 15 Y<|Tr<|Rm Y<|Rm Y<|R2 ZF Y<|Rq Y (Z4 (ov Y) tI3 Zgr Y)<|bE h fun q2 h_q2 h=>Rq Y (ZaU (ov Y) (ov Y) h_q2)<|Rq Y (Z4 (ov Y) Zgr tI3 Y)<|Ra Y<|Za<|Zg<|K6 0 2 4 14 15 16 Y<|Qd (cw := md0) (by kernel_rfl)<|D1 0 Zc Y<|D1 1 Zc Y<|D1 2 Zc Y<|bE h fun x7 h_x7 h=>Dq 3 Y (Qh (ov Y) (ov Y) QK Y Y h_x7)<|Dq 4 Y (Qu (ov Y) Y Y h_x7 tS3 Y)<|D1 5 Zc Y<|D1 6 Zc Y<|bE h fun x8 h_x8 h=>Dq 7 Y (Qh (ov Y) (ov Y) QK Y Y h_x8)<|Dq 8 Y (Qu (ov Y) Y Y h_x8 tS3 Y)<|bE h fun y2 h_y2 h=>Dq 9 Y (Zfw (ov Y) cmp_d (cmp_h _ _ _ h_y2)<|.cons (ov Y) (.b Y)<|.cons (ov Y) (.b Y) .nil)<|D2 10 ZD Y<|D1 11 XN Y<|Dd<|K7 0 2 4 14 15 16 103 Y<|If h Y (fun h=>?_) fun h=>?_
     ·
      exact K6 0 2 4 14 15 16 Y<|Zp<|Rm Y<|R2 ZF Y<|Ra Y<|Za<|⟨_, h, ES [some 0]<|sr 0 Y (.own _ Y)<|sd 2 Y Y<|sr 4 Y (rFn<|rld cmp_d)<|sd 14 Y Y<|sd 15 Y Y sn⟩
     ·
      exact K6 0 2 4 14 15 16 Y<|Zp<|Rm Y<|Ra Y<|Za<|⟨_, h, ES [some 0]<|sr 0 Y (.own _ Y)<|sd 2 Y Y<|sr 4 Y (rFn<|rld cmp_d)<|sd 14 Y Y<|sd 15 Y Y sn⟩
    ·
     refine Zz<|?_
     replace h := lx h ▸ ho3
     exact ⟨_, h, ES [some 0]⟩
   ·
    refine I1 (fun o3=>⟨[], [some ⟨3, List.map R3 o3⟩]⟩) h (fun h=>?_) fun o3 h=>?_
    ·
     refine Tr<|Rm Y<|Ra Y<|Za<|Ze<|?_
     obtain ⟨r4, hl4, ho4⟩ := QE h
     refine L2 (fun o4 k2=>⟨[(0, .own 0 o4.length), (14, .int .i64 i3), (17, .int .i64 k2)], [some ⟨3, List.map R3 o4⟩]⟩) hl4 (ES [some 0]) fun n4 o4 k2 h=>?_
     unfold ZL at h
     refine Zg<|Tr<|Rm Y<|Rm Y<|R2 Za8 Y<|Za<|K4 0 14 17 110 Y<|If h Y (fun h=>?_) fun h=>?_
     ·
      exact Zf<|Zg<|Ze<|K3 0 14 17 Y<|Qd (cw := md0) (by kernel_rfl)<|D1 0 Zc Y<|D1 1 Zc Y<|D1 5 Zc Y<|D1 6 Zc Y<|D2 7 Za4 Y<|bE h fun x9 h_x9 h=>Dq 8 Y (Qh (ov Y) (ov Y) QK Y Y h_x9)<|Dq 9 Y (Qu (ov Y) Y Y h_x9 tS3 Y)<|D1 10 Zc Y<|D1 11 Zc Y<|bE h fun x10 h_x10 h=>Dq 12 Y (Qh (ov Y) (ov Y) QK Y Y h_x10)<|Dq 13 Y (Qu (ov Y) Y Y h_x10 tS3 Y)<|bE h fun x11 h_x11 h=>Dq 14 Y (Qh (ov Y) (ov Y) QK Y Y h_x11)<|Qc 2 _ Y (by kernel_rfl) Y Y (fun hp'=>Zc<|ov Y)<|Qc 3 _ Y (by kernel_rfl) Y Y (fun hp'=>Zc<|ov Y)<|Qc 4 _ Y (by kernel_rfl) Y Y (fun hp'=>ZlT (ov Y) (ov Y) Y)<|Do 15 Y (Xo (u' := x9) (ov Y) (ov Y) (Zh tS3) Y Y h_x11 Y (Zb Y) Y)<|bE h fun x12 h_x12 h=>Dq 16 Y (Qh (ov Y) (ov Y) QK Y ((List.length_set ..).trans Y) h_x12)<|Do 17 Y (Xo (u' := x10) (ov Y) (ov Y) (Zh tS3) Y ((List.length_set ..).trans Y) h_x12 Y (Zb Y) Y)<|Dd<|K3 0 14 17 Y<|Zp<|Rm Y<|R2 Za4 Y<|Ra Y<|Za<|⟨_, h, ES [some 0]<|sr 0 Y (Zdv (Eq.symm<|(List.length_set ..).trans<|(List.length_set ..).trans Y) Y)<|sd 14 Y Y<|sd 17 Y Y sn⟩
     ·
      refine Zz<|?_
      replace h := lx h ▸ ho4
      exact ⟨_, h, ES [some 0]⟩
    ·
     obtain rfl := rt h
     exact Zo<|ZbQ [some 0] Y .nil (.cons Y (roM D3) .nil) Y Y<|Xz rln
  ·
   refine Zf<|K5 0 1 2 3 4 Y<|Tr<|Rm Y<|Rm Y<|R2 ZF Y<|Rq Y (Z4 (ov Y) tI3 Zgr Y)<|bE h fun q3 h_q3 h=>Rq Y (ZaU (ov Y) (ov Y) h_q3)<|Rq Y (Z4 (ov Y) Zgr tI3 Y)<|Ra Y<|Za<|K6 0 1 2 3 4 18 Y<|Tr<|Rm Y<|Rm Y<|R2 ZF Y<|Ra Y<|Za<|K7 0 1 2 3 4 18 19 Y<|Tr<|Ra Y<|Ra Y<|Za<|I2 (fun start r_=>⟨[(0, .own 0 data.length), (1, .int .i64 a), (2, .int .i64 m), (3, .int .i64 b), (4, .fn cmp_f cmp_c), (18, .int .i64 (i64 q3)), (19, .int .i64 (i64 ((i64 q3) + m))), (20, .int .i64 start), (21, .int .i64 r_)], [some ⟨3, List.map R3 data⟩]⟩) h (fun h=>?_) fun start r_ h=>?_
   ·
    refine K7 0 1 2 3 4 18 19 Y<|Tr<|Rm Y<|Rm Y<|R2 Za8 Y<|Za<|K8 0 1 2 3 4 18 19 140 Y<|If h Y (fun h=>?_) fun h=>?_
    ·
     exact K7 0 1 2 3 4 18 19 Y<|Tr<|Rm Y<|Rm Y<|R2 Za4 Y<|Ra Y<|Za<|K8 0 1 2 3 4 18 19 20 Y<|Zp<|Rm Y<|Ra Y<|Za<|⟨_, h, ES [some 0]<|sr 0 Y (.own _ Y)<|sd 1 Y Y<|sd 2 Y Y<|sd 3 Y Y<|sr 4 Y (rFn<|rld cmp_d)<|sd 18 Y Y<|sd 19 Y Y<|sd 20 Y Y<|sd 21 Y Y sn⟩
    ·
     exact K7 0 1 2 3 4 18 19 Y<|Tr<|Rm Y<|Ra Y<|Za<|K8 0 1 2 3 4 18 19 20 Y<|Zp<|Rm Y<|Ra Y<|Za<|⟨_, h, ES [some 0]<|sr 0 Y (.own _ Y)<|sd 1 Y Y<|sd 2 Y Y<|sd 3 Y Y<|sr 4 Y (rFn<|rld cmp_d)<|sd 18 Y Y<|sd 19 Y Y<|sd 20 Y Y<|sd 21 Y Y sn⟩
   ·
    refine Tr<|Rm Y<|R2 Za4 Y<|Ra Y<|Za<|I1 (fun start2=>⟨[(0, .own 0 data.length), (1, .int .i64 a), (2, .int .i64 m), (3, .int .i64 b), (4, .fn cmp_f cmp_c), (18, .int .i64 (i64 q3)), (19, .int .i64 (i64 ((i64 q3) + m))), (20, .int .i64 start2)], [some ⟨3, List.map R3 data⟩]⟩) h (fun h=>?_) fun start2 h=>?_
    ·
     refine Ze<|?_
     obtain ⟨r5, hl5, ho5⟩ := QE h
     refine L2 (fun start3 r_2=>⟨[(0, .own 0 data.length), (1, .int .i64 a), (2, .int .i64 m), (3, .int .i64 b), (4, .fn cmp_f cmp_c), (18, .int .i64 (i64 q3)), (19, .int .i64 (i64 ((i64 q3) + m))), (20, .int .i64 start3), (21, .int .i64 r_2), (22, .int .i64 (i64 ((i64 ((i64 q3) + m)) - 1)))], [some ⟨3, List.map R3 data⟩]⟩) hl5 (ES [some 0]<|sr 0 Y (.own _ Y)<|sd 1 Y Y<|sd 2 Y Y<|sd 3 Y Y<|sr 4 Y (rFn<|rld cmp_d)<|sd 18 Y Y<|sd 19 Y Y<|sd 20 Y Y<|sd 21 Y Y<|sd 22 Y Y sn) fun n5 start3 r_2 h=>?_
     unfold Qy at h
     refine Zg<|Tr<|Rm Y<|Rm Y<|R2 ZD Y<|Za<|K11 0 1 2 3 4 18 19 20 21 22 151 Y<|If h Y (fun h=>?_) fun h=>?_
     ·
      refine Zf<|Ze<|K10 0 1 2 3 4 18 19 20 21 22 Y<|Tr<|Rm Y<|Rm Y<|R2 ZF Y<|Rq Y (Z4 (ov Y) tI3 Zgr Y)<|bE h fun q4 h_q4 h=>Rq Y (ZaU (ov Y) (ov Y) h_q4)<|Rq Y (Z4 (ov Y) Zgr tI3 Y)<|Ra Y<|Za<|Zg<|K11 0 1 2 3 4 18 19 20 21 22 23 Y<|Qd (cw := md0) (by kernel_rfl)<|D1 0 Zc Y<|D1 1 Zc Y<|D1 2 Zc Y<|D1 3 Zc Y<|D2 4 Za4 Y<|bE h fun x13 h_x13 h=>Dq 5 Y (Qh (ov Y) (ov Y) QK Y Y h_x13)<|Dq 6 Y (Qu (ov Y) Y Y h_x13 tS3 Y)<|D1 7 Zc Y<|D1 8 Zc Y<|bE h fun x14 h_x14 h=>Dq 9 Y (Qh (ov Y) (ov Y) QK Y Y h_x14)<|Dq 10 Y (Qu (ov Y) Y Y h_x14 tS3 Y)<|bE h fun y3 h_y3 h=>Dq 11 Y (Zfw (ov Y) cmp_d (cmp_h _ _ _ h_y3)<|.cons (ov Y) (.b Y)<|.cons (ov Y) (.b Y) .nil)<|D2 12 ZD Y<|D1 13 XN Y<|Dd<|K12 0 1 2 3 4 18 19 20 21 22 23 171 Y<|If h Y (fun h=>?_) fun h=>?_
      ·
       exact K11 0 1 2 3 4 18 19 20 21 22 23 Y<|Zp<|Rm Y<|R2 ZF Y<|Ra Y<|Za<|⟨_, h, ES [some 0]<|sr 0 Y (.own _ Y)<|sd 1 Y Y<|sd 2 Y Y<|sd 3 Y Y<|sr 4 Y (rFn<|rld cmp_d)<|sd 18 Y Y<|sd 19 Y Y<|sd 20 Y Y<|sd 21 Y Y<|sd 22 Y Y sn⟩
      ·
       exact K11 0 1 2 3 4 18 19 20 21 22 23 Y<|Zp<|Rm Y<|Ra Y<|Za<|⟨_, h, ES [some 0]<|sr 0 Y (.own _ Y)<|sd 1 Y Y<|sd 2 Y Y<|sd 3 Y Y<|sr 4 Y (rFn<|rld cmp_d)<|sd 18 Y Y<|sd 19 Y Y<|sd 20 Y Y<|sd 21 Y Y<|sd 22 Y Y sn⟩
     ·
      refine Zz<|?_
      replace h := lx h ▸ ho5
      exact ⟨_, h, ES [some 0]<|sr 0 Y (.own _ Y)<|sd 1 Y Y<|sd 2 Y Y<|sd 3 Y Y<|sr 4 Y (rFn<|rld cmp_d)<|sd 18 Y Y<|sd 19 Y Y<|sd 20 Y Y sn⟩
    ·
     refine Tr<|Rm Y<|Rm Y<|R2 Za4 Y<|Ra Y<|Za<|I1 (fun o5=>⟨[(0, .own 0 o5.length), (1, .int .i64 a), (3, .int .i64 b), (4, .fn cmp_f cmp_c), (18, .int .i64 (i64 q3)), (20, .int .i64 start2), (24, .int .i64 (i64 ((i64 ((i64 q3) + m)) - start2)))], [some ⟨3, List.map R3 o5⟩]⟩) h (fun h=>?_) fun o5 h=>?_
     ·
      refine K8 0 1 2 3 4 18 20 24 Y<|Tr<|Rm Y<|Rm Y<|R2 ZD Y<|Rm Y<|Rq Y (.guarded ((decide (start2 < m)) == true) Y Y Y Y fun h => Zc<|ov Y)<|Rq Y (.guarded ((decide (start2 < m)) == true) Y Y Y Y fun h => Zc<|ov Y)<|Rq Y (.guarded ((decide (start2 < m)) == true) Y Y Y Y fun h => ZD (ow Y h)<|ow Y h)<|Rq Y (Zb4 (ov Y) fun hp=>ow Y<|gT hp)<|Za<|K9 0 1 2 3 4 18 20 24 185 Y<|If h Y (fun h=>?_) fun h=>?_
      ·
       exact K8 0 1 2 3 4 18 20 24 Y<|Zp<|Rm Y<|Rm Y<|Rm Y<|Rm Y<|Rm Y<|bE h fun y4 h_y4 h=>Rx Y (ZO [0] (ZdW cmp_d cmp_h h_y4) (.cons (ov Y) (.own _ Y)<|.cons (ov Y) (.dat Y)<|.cons (ov Y) (.dat Y)<|.cons (ov Y) (.dat Y)<|.cons (ov Y) (rFn<|rld cmp_d) .nil) (.cons Y (roM D3) .nil) Y (.lent 0 (.inl Y) Y (roM D3) .nil) Y Y<|Xz<|rld Y)<|Za<|⟨_, h, ES [some 0]<|sr 0 Y (Zdv (Eq.symm<|ZaJ h_y4) Y)<|sd 1 Y Y<|sd 3 Y Y<|sr 4 Y (rFn<|rld cmp_d)<|sd 18 Y Y<|sd 20 Y Y<|sd 24 Y Y sn⟩
      ·
       exact Zf<|⟨_, h, ES [some 0]<|sr 0 Y (.own _ Y)<|sd 1 Y Y<|sd 3 Y Y<|sr 4 Y (rFn<|rld cmp_d)<|sd 18 Y Y<|sd 20 Y Y<|sd 24 Y Y sn⟩
     ·
      refine I1 (fun o6=>⟨[(0, .own 0 o6.length), (3, .int .i64 b), (4, .fn cmp_f cmp_c), (18, .int .i64 (i64 q3)), (24, .int .i64 (i64 ((i64 ((i64 q3) + m)) - start2)))], [some ⟨3, List.map R3 o6⟩]⟩) h (fun h=>?_) fun o6 h=>?_
      ·
       refine Tr<|Rm Y<|Rm Y<|R2 ZD Y<|Rm Y<|Rq Y (.guarded ((decide (a < start2)) == true) Y Y Y Y fun h => Zc<|ov Y)<|Rq Y (.guarded ((decide (a < start2)) == true) Y Y Y Y fun h => Zc<|ov Y)<|Rq Y (.guarded ((decide (a < start2)) == true) Y Y Y Y fun h => ZD (ow Y h)<|ow Y h)<|Rq Y (Zb4 (ov Y) fun hp=>ow Y<|gT hp)<|Za<|K8 0 1 3 4 18 20 24 199 Y<|If h Y (fun h=>?_) fun h=>?_
       ·
        exact K7 0 1 3 4 18 20 24 Y<|Zp<|Rm Y<|Rm Y<|Rm Y<|Rm Y<|Rm Y<|bE h fun y5 h_y5 h=>Rx Y (ZO [0] (hrec cmp_d cmp_h h_y5) (.cons (ov Y) (.own _ Y)<|.cons (ov Y) (.dat Y)<|.cons (ov Y) (.dat Y)<|.cons (ov Y) (.dat Y)<|.cons (ov Y) (rFn<|rld cmp_d) .nil) (.cons Y (roM D3) .nil) Y (.lent 0 (.inl Y) Y (roM D3) .nil) Y Y<|Xz<|rld Y)<|Za<|⟨_, h, ES [some 0]<|sr 0 Y (Zdv (Eq.symm<|ln_rec_ h_y5) Y)<|sd 3 Y Y<|sr 4 Y (rFn<|rld cmp_d)<|sd 18 Y Y<|sd 24 Y Y sn⟩
       ·
        exact Zf<|⟨_, h, ES [some 0]<|sr 0 Y (.own _ Y)<|sd 3 Y Y<|sr 4 Y (rFn<|rld cmp_d)<|sd 18 Y Y<|sd 24 Y Y sn⟩
      ·
       refine Tr<|Rm Y<|Rm Y<|R2 ZD Y<|Rm Y<|Rq Y (.guarded ((decide ((i64 q3) < (i64 ((i64 ((i64 q3) + m)) - start2)))) == true) Y Y Y Y fun h => Zc<|ov Y)<|Rq Y (.guarded ((decide ((i64 q3) < (i64 ((i64 ((i64 q3) + m)) - start2)))) == true) Y Y Y Y fun h => Zc<|ov Y)<|Rq Y (.guarded ((decide ((i64 q3) < (i64 ((i64 ((i64 q3) + m)) - start2)))) == true) Y Y Y Y fun h => ZD (ow Y h)<|ow Y h)<|Rq Y (Zb4 (ov Y) fun hp=>ow Y<|gT hp)<|Za<|K6 0 3 4 18 24 213 Y<|If h Y (fun h=>?_) fun h=>?_
       ·
        refine K5 0 3 4 18 24 Y<|Zp<|Rm Y<|Rm Y<|Rm Y<|Rm Y<|Rm Y<|bE h fun y6 h_y6 h=>Rx Y (ZO [0] (hrec cmp_d cmp_h h_y6) (.cons (ov Y) (.own _ Y)<|.cons (ov Y) (.dat Y)<|.cons (ov Y) (.dat Y)<|.cons (ov Y) (.dat Y)<|.cons (ov Y) (rFn<|rld cmp_d) .nil) (.cons Y (roM D3) .nil) Y (.lent 0 (.inl Y) Y (roM D3) .nil) Y Y<|Xz<|rld Y)<|Za<|?_
        obtain rfl := rt h
        exact ZgV [some 0] Y .nil (.cons Y (roM D3) .nil) Y Y<|Xz rln
       ·
        refine Zf<|?_
        obtain rfl := rt h
        exact ZgV [some 0] Y .nil (.cons Y (roM D3) .nil) Y Y<|Xz rln
theorem J3 {n_ : Nat} {data : List Int} {a : Int} {m : Int} {b : Int} {cmp : Int → Int → Option Int} {r : (List Int)} {cmp_f : FuncId} {cmp_c : List AV} (cmp_d : cmp_c.all datB = true) (cmp_h : ∀ (z0 : Int) (z1 : Int) z, cmp z0 z1 = some z → CSpec Tryz.prog gl0 cmp_f ([.int .i64 z0, .int .i64 z1] ++ cmp_c) (.int .i64 z)) (h : ZE n_ data a m b cmp = some r) :
 GSpec Tryz.prog gl0 156 [.own 0 data.length, .int .i64 a, .int .i64 m, .int .i64 b, .fn cmp_f cmp_c] [some ⟨3, List.map R3 data⟩] (.tuple []) [some ⟨3, List.map R3 r⟩] := by
 induction n_ generalizing data a m b cmp r cmp_f cmp_c with
 | zero => cases h
 | succ n ih => exact ZcB cmp_d cmp_h Qz (fun cmp_d cmp_h h => ih cmp_d cmp_h h) h
theorem ZdM {data : List Int} {n : Int} {cmp : Int → Int → Option Int} {r : (List Int)} {cmp_f : FuncId} {cmp_c : List AV} (cmp_d : cmp_c.all datB = true) (cmp_h : ∀ (z0 : Int) (z1 : Int) z, cmp z0 z1 = some z → CSpec Tryz.prog gl0 cmp_f ([.int .i64 z0, .int .i64 z1] ++ cmp_c) (.int .i64 z)) (h : Z8 data n cmp = some r) :
 GSpec Tryz.prog gl0 137 [.own 0 data.length, .int .i64 n, .fn cmp_f cmp_c] [some ⟨3, List.map R3 data⟩] (.tuple []) [some ⟨3, List.map R3 r⟩] := by
 unfold Z8 at h
 replace h := Qk h
 refine QZ (by kernel_rfl) Tryz.func137 Y Y<|?_
 intro w0 A W φ0
 refine Tr<|Ra Y<|Za<|Tr<|Rm Y<|Ra Y<|Ra Y<|Za<|I2 (fun o a=>⟨[(0, .own 0 o.length), (1, .int .i64 n), (2, .fn cmp_f cmp_c), (6, .int .i64 20), (7, .int .i64 a)], [some ⟨3, List.map R3 o⟩]⟩) h (fun h=>?_) fun o a h=>?_
 ·
  refine Ze<|?_
  obtain ⟨r1, hl1, ho1⟩ := QE h
  refine L3 (fun o2 a2 b=>⟨[(0, .own 0 o2.length), (1, .int .i64 n), (2, .fn cmp_f cmp_c), (6, .int .i64 20), (7, .int .i64 a2), (8, .int .i64 b)], [some ⟨3, List.map R3 o2⟩]⟩) hl1 (ES [some 0]<|sr 0 Y (.own _ Y)<|sd 1 Y Y<|sr 2 Y (rFn<|rld cmp_d)<|sd 6 Y Y<|sd 7 Y Y<|sd 8 Y Y sn) fun n1 o2 a2 b h=>?_
  unfold ZI at h
  refine Zg<|Tr<|Rm Y<|Rm Y<|R2 ZhU Y<|Za<|K7 0 1 2 6 7 8 13 Y<|If h Y (fun h=>?_) fun h=>?_
  ·
   exact Zf<|Ze<|K6 0 1 2 6 7 8 Y<|Tr<|Rm Y<|Rm Y<|Rm Y<|Rm Y<|bE h fun y h_y h=>Rx Y (ZO [0] (Jc cmp_d cmp_h h_y) (.cons (ov Y) (.own _ Y)<|.cons (ov Y) (.dat Y)<|.cons (ov Y) (.dat Y)<|.cons (ov Y) (rFn<|rld cmp_d) .nil) (.cons Y (roM D3) .nil) Y (.lent 0 (.inl Y) Y (roM D3) .nil) Y Y<|Xz<|rld Y)<|Za<|K6 0 1 2 6 7 8 Y<|Tr<|Rm Y<|Ra Y<|Za<|K6 0 1 2 6 7 8 Y<|Zp<|Rm Y<|Rm Y<|R2 ZF Y<|Ra Y<|Za<|⟨_, h, ES [some 0]<|sr 0 Y (Zdv (Eq.symm<|QC h_y) Y)<|sd 1 Y Y<|sr 2 Y (rFn<|rld cmp_d)<|sd 6 Y Y<|sd 7 Y Y<|sd 8 Y Y sn⟩
  ·
   refine Zz<|?_
   replace h := lx h ▸ ho1
   exact ⟨_, h, ES [some 0]<|sr 0 Y (.own _ Y)<|sd 1 Y Y<|sr 2 Y (rFn<|rld cmp_d)<|sd 6 Y Y<|sd 7 Y Y sn⟩
 ·
  refine Tr<|Rm Y<|Rm Y<|Rm Y<|Rm Y<|bE h fun y2 h_y2 h=>Rx Y (ZO [0] (Jc cmp_d cmp_h h_y2) (.cons (ov Y) (.own _ Y)<|.cons (ov Y) (.dat Y)<|.cons (ov Y) (.dat Y)<|.cons (ov Y) (rFn<|rld cmp_d) .nil) (.cons Y (roM D3) .nil) Y (.lent 0 (.inl Y) Y (roM D3) .nil) Y Y<|Xz<|rld Y)<|Za<|Ze<|?_
  obtain ⟨r2, hl2, ho2⟩ := QE h
  refine L2 (fun o3 blockSize=>⟨[(0, .own 0 o3.length), (1, .int .i64 n), (2, .fn cmp_f cmp_c), (6, .int .i64 blockSize)], [some ⟨3, List.map R3 o3⟩]⟩) hl2 (ES [some 0]<|sr 0 Y (Zdv (Eq.symm<|QC h_y2) Y)<|sd 1 Y Y<|sr 2 Y (rFn<|rld cmp_d)<|sd 6 Y Y sn) fun n2 o3 blockSize h=>?_
  unfold ZC at h
  refine Zg<|Tr<|Rm Y<|Rm Y<|R2 ZD Y<|Za<|K5 0 1 2 6 30 Y<|If h Y (fun h=>?_) fun h=>?_
  ·
   refine Zf<|Ze<|K4 0 1 2 6 Y<|Tr<|Rm Y<|R2 Zds Y<|Ra Y<|Ra Y<|Za<|I2 (fun o4 a3=>⟨[(0, .own 0 o4.length), (1, .int .i64 n), (2, .fn cmp_f cmp_c), (6, .int .i64 blockSize), (7, .int .i64 a3)], [some ⟨3, List.map R3 o4⟩]⟩) h (fun h=>?_) fun o4 a3 h=>?_
   ·
    refine Ze<|?_
    obtain ⟨r3, hl3, ho3⟩ := QE h
    refine L3 (fun o5 a4 b2=>⟨[(0, .own 0 o5.length), (1, .int .i64 n), (2, .fn cmp_f cmp_c), (6, .int .i64 blockSize), (7, .int .i64 a4), (8, .int .i64 b2)], [some ⟨3, List.map R3 o5⟩]⟩) hl3 (ES [some 0]<|sr 0 Y (.own _ Y)<|sd 1 Y Y<|sr 2 Y (rFn<|rld cmp_d)<|sd 6 Y Y<|sd 7 Y Y<|sd 8 Y Y sn) fun n3 o5 a4 b2 h=>?_
    unfold ZB at h
    refine Zg<|Tr<|Rm Y<|Rm Y<|R2 ZhU Y<|Za<|K7 0 1 2 6 7 8 35 Y<|If h Y (fun h=>?_) fun h=>?_
    ·
     exact Zf<|Ze<|K6 0 1 2 6 7 8 Y<|Tr<|Rm Y<|Rm Y<|Rm Y<|Rm Y<|R2 ZF Y<|Rm Y<|Rm Y<|bE h fun y3 h_y3 h=>Rx Y (ZO [0] (J3 cmp_d cmp_h h_y3) (.cons (ov Y) (.own _ Y)<|.cons (ov Y) (.dat Y)<|.cons (ov Y) (.dat Y)<|.cons (ov Y) (.dat Y)<|.cons (ov Y) (rFn<|rld cmp_d) .nil) (.cons Y (roM D3) .nil) Y (.lent 0 (.inl Y) Y (roM D3) .nil) Y Y<|Xz<|rld Y)<|Za<|K6 0 1 2 6 7 8 Y<|Tr<|Rm Y<|Ra Y<|Za<|K6 0 1 2 6 7 8 Y<|Zp<|Rm Y<|Rm Y<|R2 Zds Y<|R2 ZF Y<|Ra Y<|Za<|⟨_, h, ES [some 0]<|sr 0 Y (Zdv (Eq.symm<|Qz h_y3) Y)<|sd 1 Y Y<|sr 2 Y (rFn<|rld cmp_d)<|sd 6 Y Y<|sd 7 Y Y<|sd 8 Y Y sn⟩
    ·
     refine Zz<|?_
     replace h := lx h ▸ ho3
     exact ⟨_, h, ES [some 0]<|sr 0 Y (.own _ Y)<|sd 1 Y Y<|sr 2 Y (rFn<|rld cmp_d)<|sd 6 Y Y<|sd 7 Y Y sn⟩
   ·
    refine Zg<|Tr<|Rm Y<|Rm Y<|R2 ZF Y<|Ra Y<|Za<|K6 0 1 2 6 7 9 Y<|Tr<|Rm Y<|Rm Y<|R2 ZD Y<|Za<|K7 0 1 2 6 7 9 54 Y<|If h Y (fun h=>?_) fun h=>?_
    ·
     exact K6 0 1 2 6 7 9 Y<|Zp<|Rm Y<|Rm Y<|Rm Y<|Rm Y<|Rm Y<|bE h fun y4 h_y4 h=>Rx Y (ZO [0] (J3 cmp_d cmp_h h_y4) (.cons (ov Y) (.own _ Y)<|.cons (ov Y) (.dat Y)<|.cons (ov Y) (.dat Y)<|.cons (ov Y) (.dat Y)<|.cons (ov Y) (rFn<|rld cmp_d) .nil) (.cons Y (roM D3) .nil) Y (.lent 0 (.inl Y) Y (roM D3) .nil) Y Y<|Xz<|rld Y)<|Za<|K4 0 1 2 6 Y<|Zp<|Rm Y<|R2 Zds Y<|Ra Y<|Za<|⟨_, h, ES [some 0]<|sr 0 Y (Zdv (Eq.symm<|Qz h_y4) Y)<|sd 1 Y Y<|sr 2 Y (rFn<|rld cmp_d)<|sd 6 Y Y sn⟩
    ·
     exact Zf<|K4 0 1 2 6 Y<|Zp<|Rm Y<|R2 Zds Y<|Ra Y<|Za<|⟨_, h, ES [some 0]<|sr 0 Y (.own _ Y)<|sd 1 Y Y<|sr 2 Y (rFn<|rld cmp_d)<|sd 6 Y Y sn⟩
  ·
   refine Zz<|?_
   replace h := lx h ▸ ho2
   obtain rfl := rt h
   exact ZgV [some 0] Y .nil (.cons Y (roM D3) .nil) Y Y<|Xz rln
theorem Zck {x : List Int} {cmp : Int → Int → Option Int} {r : (List Int)} {cmp_f : FuncId} {cmp_c : List AV} (cmp_d : cmp_c.all datB = true) (cmp_h : ∀ (z0 : Int) (z1 : Int) z, cmp z0 z1 = some z → CSpec Tryz.prog gl0 cmp_f ([.int .i64 z0, .int .i64 z1] ++ cmp_c) (.int .i64 z)) (h : ZN x cmp = some r) :
 GSpec Tryz.prog gl0 114 [.own 0 x.length, .fn cmp_f cmp_c] [some ⟨3, List.map R3 x⟩] (.tuple []) [some ⟨3, List.map R3 r⟩] := by
 unfold ZN at h
 replace h := Qk h
 refine QZ (by kernel_rfl) Tryz.func114 Y Y<|?_
 intro w0 A W φ0
 refine Zp<|Rm Y<|Rm Y<|Rq Y (Zc0 (ov Y) Y Y QK)<|Rm Y<|bE h fun y h_y h=>Rx Y (ZO [0] (ZdM cmp_d cmp_h h_y) (.cons (ov Y) (.own _ Y)<|.cons (ov Y) (.dat Y)<|.cons (ov Y) (rFn<|rld cmp_d) .nil) (.cons Y (roM D3) .nil) Y (.lent 0 (.inl Y) Y (roM D3) .nil) Y Y<|Xz<|rld Y)<|Za<|?_
 obtain rfl := rt h
 exact ZgV [some 0] Y .nil (.cons Y (roM D3) .nil) Y Y<|Xz rln
theorem ZeC {i : Int} {c0 : api_Memory} {r : Int} (h : XD i c0 = some r) :
 CSpec Tryz.prog gl0 113 [.int .i64 i, .rp [.int .i64 c0.Slots, .int .i64 c0.Limit, .sl 49 (List.map R49 c0.Sectors), .sl 3 (List.map R3 c0.Wear), .sl 4 (List.map R4 c0.Bad)] 0] (.int .i64 r) := by
 unfold XD at h
 replace h := Qk h
 refine So Tryz.func113 Y fun w0 A=>Tr<|Ra Y<|Za<|K2 0 1 Y<|Tr<|Rq Y (ZU (ov Y) ZP)<|Rq Y (Zd (ov Y) Qw Y)<|Rm Y<|bE h fun x h_x h=>Rq Y (ZS (ov Y) (ov Y) Qm h_x)<|Rq Y (Zd (ov Y) ZfN Y)<|bE h fun y h_y h=>Rq Y (Zn (Zb6 h_y)<|.cons (ov Y) (.b Y) .nil)<|Rm Y<|Rq Y (Zj (ov Y) Y)<|Rq Y (Zj (ov Y) Y)<|Rq Y (Zj (ov Y) Y)<|Ra Y<|Ra Y<|Ra Y<|Za<|K1 4 Y<|Tr<|Rm Y<|Ra Y<|Za<|?_
 obtain rfl := rt h
 exact Zo (ZG Y (.one<|rb Y))
theorem ZhH {a : Int} {b : Int} {k : api_Memory} {r : Int} (h : XH a b k = some r) :
 CSpec Tryz.prog gl0 115 [.int .i64 a, .int .i64 b, .rp [.fn 113 [.rp [.int .i64 k.Slots, .int .i64 k.Limit, .sl 49 (List.map R49 k.Sectors), .sl 3 (List.map R3 k.Wear), .sl 4 (List.map R4 k.Bad)] 0]] 0] (.int .i64 r) := by
 unfold XH at h
 replace h := Qk h
 refine So Tryz.func115 Y fun w0 A=>Tr<|Ra Y<|Za<|Zg<|Qd (cw := md0) (by kernel_rfl)<|Dq 0 Y (Zd (ov Y) Zpj Y)<|D1 1 Zc Y<|bE h fun y h_y h=>Dq 2 Y (Zfw (ov Y) Y (ZeC h_y)<|.cons (ov Y) (.b Y) .nil)<|Dq 3 Y (Zd (ov Y) Zpj Y)<|D1 4 Zc Y<|bE h fun y2 h_y2 h=>Dq 5 Y (Zfw (ov Y) Y (ZeC h_y2)<|.cons (ov Y) (.b Y) .nil)<|D2 6 Za4 Y<|D1 7 Qp Y<|Dd<|?_
 obtain rfl := rt h
 exact Zo (ZG Y (.one<|rb Y))
theorem ZfJ {m : api_Memory} {r : (List Int)} (h : Xb m = some r) :
 CSpec Tryz.prog gl0 76 [.agg [.int .i64 m.Slots, .int .i64 m.Limit, .sl 49 (List.map R49 m.Sectors), .sl 3 (List.map R3 m.Wear), .sl 4 (List.map R4 m.Bad)]] (.sl 3 (List.map R3 r)) := by
 unfold Xb at h
 replace h := Qk h
 refine So Tryz.func76 Y fun w0 A=>Tr<|Rq Y (ZbM (cva<|ov Y) Y tZ_26 Y)<|Ra Y<|Za<|K1 1 Y<|Tr<|Ra Y<|Za<|Tr<|Rq Y (ZjC<|.cons (ov Y) .nil)<|Rx Y (Z3 (row := [_]) 0 Y ZqK Y tZ_92)<|Rx Y (Zl (ov Y) (ov Y) (Zh Zpj) Y Y Y (Nat.le_of_ble_eq_true Y) (Zb Y) Y)<|Za<|I1 (fun out=>⟨[(3, .own 0 out.length), (4, .ptr 1 1 0 0)], [some ⟨3, List.map R3 out⟩, some ⟨92, [[.fn 113 [.rp [.int .i64 m.Slots, .int .i64 m.Limit, .sl 49 (List.map R49 m.Sectors), .sl 3 (List.map R3 m.Wear), .sl 4 (List.map R4 m.Bad)] 0]]]⟩]⟩) h (fun h=>?_) fun out h=>?_
 ·
  refine K3 1 3 4 Y<|Tr<|Rq Y (ZU (ov Y) ZP)<|Rq Y (Zd (ov Y) Qw Y)<|Rl tZ_49 Qm Y<|Rm Y<|Za<|Ze<|?_
  obtain ⟨r1, hl1, ho1⟩ := QE h
  refine L2 (fun out2 i=>⟨[(1, .rp [.int .i64 m.Slots, .int .i64 m.Limit, .sl 49 (List.map R49 m.Sectors), .sl 3 (List.map R3 m.Wear), .sl 4 (List.map R4 m.Bad)] 0), (3, .own 0 out2.length), (4, .ptr 1 1 0 0), (12, .sl 49 (List.map R49 m.Sectors)), (13, .int .i64 (m.Sectors.length : Int)), (14, .int .i64 i)], [some ⟨3, List.map R3 out2⟩, some ⟨92, [[.fn 113 [.rp [.int .i64 m.Slots, .int .i64 m.Limit, .sl 49 (List.map R49 m.Sectors), .sl 3 (List.map R3 m.Wear), .sl 4 (List.map R4 m.Bad)] 0]]]⟩]⟩) hl1 (ES [none, some 0] (hhp := .row 3<|.cons Y (ro1 (by exact tZ_92.symm)<|rlc (rFn<|rlc (.dat Y) rln) rln) .nil)) fun n1 out2 i h=>?_
  unfold XW at h
  refine Tr<|R2 ZD Y<|Za<|Zg<|If h Y (fun h=>?_) fun h=>?_
  ·
   refine Zf<|Zg<|Ze<|K6 1 3 4 12 13 14 Y<|Tr<|Rm Y<|bE h fun x h_x h=>Rq Y (ZS (ov Y) (ov Y) Qm h_x)<|Rq Y (Zd (ov Y) ZfN Y)<|Ra Y<|Ra Y<|Za<|K8 1 3 4 5 6 12 13 14 Y<|Tr<|Rm Y<|bE h fun y h_y h=>Rq Y (Zn (Zb6 h_y)<|.cons (ov Y) (.b Y) .nil)<|Rm Y<|Rq Y (Zj (ov Y) Y)<|Rq Y (Zj (ov Y) Y)<|Rq Y (Zj (ov Y) Y)<|Ra Y<|Ra Y<|Ra Y<|Za<|K8 1 3 4 5 9 12 13 14 Y<|Tr<|Rm Y<|Rm Y<|Rq Y (.guarded (y.2.2 == true) Y Y Y Y fun h => ZU (ov Y) ZeI)<|Rq Y (.guarded (y.2.2 == true) Y Y Y Y fun h => Zd (ow Y h) ZjR Y)<|Rq Y (.guarded (y.2.2 == true) Y Y Y Y fun h => Zc<|ov Y)<|bE h fun x2 h_x2 h=>Rq Y (.guarded (y.2.2 == true) Y Y Y Y fun h => ZS (ow Y h) (ow Y h) ZgF<|gdT h_x2 h)<|Rq Y (.guarded (y.2.2 == true) Y Y Y Y fun h => Zd (ow Y h) tS4 Y)<|Rq Y (.guarded (y.2.2 == true) Y Y Y Y fun h => XN<|ow Y h)<|Rq Y (Zb4 (ov Y) fun hp=>ow Y<|gT hp)<|Za<|K8 1 3 4 5 12 13 14 33 Y<|If h Y (fun h=>?_) fun h=>?_
   ·
    exact K7 1 3 4 5 12 13 14 Y<|Zp<|Rm Y<|Rm Y<|R_q (.sl 3<|List.map R3 ([i] : List Int)) Y (Xw QK (.cons (cvs (ov Y)<|Zk Y) Y (.cons (.b Y) .nil) .nil) Y Y)<|bE h fun l h_l h=>Rx Y (Qo (ov Y) (QD (ov Y) tZ_3) QK Y Y Y (fun _=>Zb Y) Y h_l)<|Ra Y<|Za<|K6 1 3 4 12 13 14 Y<|Zp<|R2 ZF Y<|Rm Y<|Za<|⟨_, h, ES [some 0, some 1] (hhp := .cons Y (roM D3)<|.cons Y (ro1 (by exact tZ_92.symm)<|rlc (rFn<|rlc (.dat Y) rln) rln) .nil)⟩
   ·
    exact Zf<|K6 1 3 4 12 13 14 Y<|Zp<|R2 ZF Y<|Rm Y<|Za<|⟨_, h, ES [some 0, some 1] (hhp := .cons Y (roM D3)<|.cons Y (ro1 (by exact tZ_92.symm)<|rlc (rFn<|rlc (.dat Y) rln) rln) .nil)⟩
  ·
   refine Zz<|?_
   replace h := lx h ▸ ho1
   exact ⟨_, h, ES [some 0, some 1] (hhp := .cons Y (roM D3)<|.cons Y (ro1 (by exact tZ_92.symm)<|rlc (rFn<|rlc (.dat Y) rln) rln) .nil)⟩
 ·
  refine Tr<|Rm Y<|Xn (Ent.sel [some 0, none] (sr 3 Y (.own (r' := 0) _ Y)<|sr 4 Y (.frp ⟨Y, ⟨_, Y⟩, Y, Y⟩)<|sr 39 Y (.own (r' := 0) _ Y) sn) (.cons Y (roM D3)<|.row 92 .nil) Y Y)<|Rq Y (ZjC<|.cons (ov Y) .nil)<|bE h fun y2 h_y2 h=>Rx Y (ZO [0] (Zck Y (fun z0 z1 _ hz=>ZhH hz) h_y2) (.cons (ov Y) (.own _ Y)<|.cons (ov Y) (.dat Y) .nil) (.cons Y (roM D3) .nil) Y (.lent 0 (.inl Y) Y (roM D3)<|.keep Y Y .nil) Y Y<|Xz<|rld Y)<|Za<|K1 3 Y<|Tr<|Rm Y<|Ra Y<|Za<|?_
  obtain rfl := rt h
  exact Zo (ZG Y (.one<|.tmp Y<|View.ownM Y (Zb9 h_y2) D3))
theorem XV {n : Int} {low : Int} {high : Int} {r : Bool} (h : QQ n low high = some r) :
 CSpec Tryz.prog gl0 57 [.int .i64 n, .int .i64 low, .int .i64 high] (.bool r) := by
 unfold QQ at h
 replace h := Qk h
 refine So Tryz.func57 Y fun w0 A=>Tr<|Ra Y<|Za<|Tr<|Rm Y<|Rm Y<|R2 ZD Y<|Rm Y<|Rq Y (.guarded ((decide (n < low)) == false) Y Y Y Y fun h => Zc<|ov Y)<|Rq Y (.guarded ((decide (n < low)) == false) Y Y Y Y fun h => Zc<|ov Y)<|Rq Y (.guarded ((decide (n < low)) == false) Y Y Y Y fun h => Za8 (ow Y h)<|ow Y h)<|Rq Y (Zdw (ov Y) fun hp=>ow Y<|gF hp)<|Ra Y<|Za<|?_
 obtain rfl := rt h
 exact Zo (ZG Y (.one<|rb Y))
theorem ZgI {m : api_Memory} {r : Int} (h : JQ m = some r) :
 CSpec Tryz.prog gl0 44 [.agg [.int .i64 m.Slots, .int .i64 m.Limit, .sl 49 (List.map R49 m.Sectors), .sl 3 (List.map R3 m.Wear), .sl 4 (List.map R4 m.Bad)]] (.int .i64 r) := by
 unfold JQ at h
 replace h := Qk h
 refine So Tryz.func44 Y fun w0 A=>Tr<|Rq Y (ZbM (cva<|ov Y) Y tZ_26 Y)<|Ra Y<|Za<|K1 1 Y<|Tr<|Rq Y (ZU (ov Y) ZP)<|Rq Y (Zd (ov Y) Qw Y)<|Rl tZ_49 Qm Y<|Ra Y<|Za<|Zg<|K2 1 3 Y<|Tr<|Rq Y (ZU (ov Y) ZeK)<|Rq Y (Zd (ov Y) tS3 Y)<|bE h fun y h_y h=>Rq Y (Zn (XV h_y)<|.cons (ov Y) (.b Y)<|.cons (ov Y) (.b Y)<|.cons (ov Y) (.b Y) .nil)<|Rm Y<|Rq Y (.guarded (y == false) Y Y Y Y fun h => ZU (ov Y) Zjz)<|Rq Y (.guarded (y == false) Y Y Y Y fun h => Zd (ow Y h) tS3 Y)<|bE h fun y2 h_y2 h=>Rq Y (.guarded (y == false) Y Y Y Y fun h => Zn (XV<|gdT h_y2 h)<|.cons (ow Y h) (.b Y)<|.cons (ov Y) (.b Y)<|.cons (ov Y) (.b Y) .nil)<|Rq Y (Zdw (ov Y) fun hp=>ow Y<|gF hp)<|Rm Y<|Rq Y (.guarded ((y || y2) == false) Y Y Y Y fun h => Zc<|ov Y)<|bE h fun y3 h_y3 h=>Rq Y (.guarded ((y || y2) == false) Y Y Y Y fun h => Zn (XV<|gdT h_y3 h)<|.cons (ow Y h) (.b Y)<|.cons (ov Y) (.b Y)<|.cons (ov Y) (.b Y) .nil)<|Rq Y (Zdw (ov Y) fun hp=>ow Y<|gF hp)<|Za<|K3 1 3 20 Y<|If h Y (fun h=>?_) fun h=>?_
 ·
  refine K0<|Tr<|Ra Y<|Za<|?_
  obtain rfl := rt h
  exact Zo (ZG Y (.one<|rb Y))
 ·
  refine Zf<|Zg<|K2 1 3 Y<|Tr<|Rq Y (ZU (ov Y) Zfx)<|Rq Y (Zd (ov Y) ZkK Y)<|Rl tZ_3 QK Y<|Rm Y<|R2 Q2 Y<|Rm Y<|Rq Y (.guarded ((!decide ((m.Wear.length : Int) = (m.Sectors.length : Int))) == false) Y Y Y Y fun h => ZU (ov Y) ZeI)<|Rq Y (.guarded ((!decide ((m.Wear.length : Int) = (m.Sectors.length : Int))) == false) Y Y Y Y fun h => Zd (ow Y h) ZjR Y)<|Rq Y (.guarded ((!decide ((m.Wear.length : Int) = (m.Sectors.length : Int))) == false) Y Y Y Y fun h => ZjN (QD (ow Y h) tZ_4) ZgF<|Zfn _ _)<|Rq Y (.guarded ((!decide ((m.Wear.length : Int) = (m.Sectors.length : Int))) == false) Y Y Y Y fun h => Zc<|ov Y)<|Rq Y (.guarded ((!decide ((m.Wear.length : Int) = (m.Sectors.length : Int))) == false) Y Y Y Y fun h => Q2 (ow Y h)<|ow Y h)<|Rq Y (Zdw (ov Y) fun hp=>ow Y<|gF hp)<|Za<|K2 1 32 Y<|If h Y (fun h=>?_) fun h=>?_
  ·
   refine K0<|Tr<|Ra Y<|Za<|?_
   obtain rfl := rt h
   exact Zo (ZG Y (.one<|rb Y))
  ·
   refine Zf<|J0 (fun j => (.inr j)) ⟨[], []⟩ h (fun h=>?_) fun h=>?_
   ·
    refine K1 1 Y<|Tr<|Rq Y (ZU (ov Y) ZP)<|Rq Y (Zd (ov Y) Qw Y)<|Rl tZ_49 Qm Y<|Rm Y<|Za<|Ze<|?_
    obtain ⟨r1, hl1, ho1⟩ := QE h
    refine L1 (fun i=>⟨[(1, .rp [.int .i64 m.Slots, .int .i64 m.Limit, .sl 49 (List.map R49 m.Sectors), .sl 3 (List.map R3 m.Wear), .sl 4 (List.map R4 m.Bad)] 0), (34, .sl 49 (List.map R49 m.Sectors)), (35, .int .i64 (m.Sectors.length : Int)), (36, .int .i64 i)], []⟩) hl1 (ES []) fun n1 i h=>?_
    unfold JO at h
    refine Tr<|R2 ZD Y<|Za<|Zg<|If h Y (fun h=>?_) fun h=>?_
    ·
     refine Zf<|Zg<|Ze<|K4 1 34 35 36 Y<|Tr<|Rm Y<|bE h fun x h_x h=>Rq Y (ZS (ov Y) (ov Y) Qm h_x)<|Rq Y (Zd (ov Y) ZfN Y)<|Ra Y<|Ra Y<|Za<|Zg<|K6 1 4 5 34 35 36 Y<|Tr<|Rm Y<|Rl tZ_5 QF Y<|Rq Y (ZU (ov Y) ZeK)<|Rq Y (Zd (ov Y) tS3 Y)<|R2 Zds Y<|R2 ZF Y<|R2 Q2 Y<|Za<|K6 1 4 34 35 36 47 Y<|If h Y (fun h=>?_) fun h=>?_
     ·
      refine K0<|Tr<|Ra Y<|Za<|?_
      replace h := lx h ▸ ho1
      obtain rfl := rt h
      exact Zo (ZG Y (.one<|rb Y))
     ·
      refine Zf<|Zg<|K5 1 4 34 35 36 Y<|Qd (cw := md0) (by kernel_rfl)<|Dq 0 Y (ZU (ov Y) Zfx)<|Dq 1 Y (Zd (ov Y) ZkK Y)<|D1 2 Zc Y<|bE h fun x2 h_x2 h=>Dq 3 Y (ZS (ov Y) (ov Y) QK h_x2)<|Dq 4 Y (Zd (ov Y) tS3 Y)<|Dq 5 Y (ZU (ov Y) Zjz)<|Dq 6 Y (Zd (ov Y) tS3 Y)<|bE h fun y4 h_y4 h=>Dq 7 Y (Zn (XV h_y4)<|.cons (ov Y) (.b Y)<|.cons (ov Y) (.b Y)<|.cons (ov Y) (.b Y) .nil)<|Dd<|K5 1 34 35 36 55 Y<|If h Y (fun h=>?_) fun h=>?_
      ·
       refine K0<|Tr<|Ra Y<|Za<|?_
       replace h := lx h ▸ ho1
       obtain rfl := rt h
       exact Zo (ZG Y (.one<|rb Y))
      ·
       exact Zf<|K4 1 34 35 36 Y<|Zp<|R2 ZF Y<|Rm Y<|Za<|⟨_, h, ES []⟩
    ·
     refine Zz<|?_
     replace h := lx h ▸ ho1
     exact ⟨(), h, ES []⟩
   ·
    replace h := elr h
    replace h := t0i h
    refine Tr<|Ra Y<|Za<|?_
    obtain rfl := rt h
    exact Zo (ZG Y (.one<|rb Y))
theorem Zjq {sequence : Int} {r : (List Int)} (h : Zdn sequence = some r) :
 CSpec Tryz.prog gl0 88 [.int .i64 sequence] (.sl 5 (List.map R5 r)) := by
 unfold Zdn at h
 replace h := Qk h
 refine So Tryz.func88 Y fun w0 A=>Tr<|Ra Y<|Za<|K1 0 Y<|Tr<|Rx Y (ZjQ (r := 0) (xs := ([79, 66] : List Int)) (f := R5) Y QF (.cons (cvs (ov Y)<|Zk Y) Y (.cons (.b Y) .nil)<|.cons (cvs (ov Y)<|Zk Y) Y (.cons (.b Y) .nil) .nil) Y Y Y)<|Ra Y<|Za<|I1 (fun out=>⟨[(3, .own 0 out.length)], [some ⟨5, List.map R5 out⟩]⟩) h (fun h=>?_) fun out h=>?_
 ·
  refine K2 0 3 Y<|Tr<|Rm Y<|Rq Y (Z4 (ov Y) tI3 ZnL Y)<|Rm Y<|Rq Y (Z4 (ov Y) tI3 ZnL Y)<|R1 ZkC Y<|R_q (.sl 169<|List.map ZoJ ([(u32 sequence), (ZaL .u32 4294967295 (u32 sequence))] : List Int)) Y (Xw Znk (.cons (cvs (ov Y)<|Zk Y) Y (.cons (.b Y) .nil)<|.cons (cvs (ov Y)<|Zk Y) Y (.cons (.b Y) .nil) .nil) Y Y)<|Rl tZ_169 Znk Y<|Rm Y<|Za<|Ze<|?_
  obtain ⟨r1, hl1, ho1⟩ := QE h
  refine L2 (fun out2 i=>⟨[(3, .own 0 out2.length), (13, .sl 169 (List.map ZoJ ([(u32 sequence), (ZaL .u32 4294967295 (u32 sequence))] : List Int))), (14, .int .i64 (([(u32 sequence), (ZaL .u32 4294967295 (u32 sequence))] : List Int).length : Int)), (15, .int .i64 i)], [some ⟨5, List.map R5 out2⟩]⟩) hl1 (ES [some 0]) fun n1 out2 i h=>?_
  unfold Jh at h
  refine Tr<|R2 ZD Y<|Za<|Zg<|If h Y (fun h=>?_) fun h=>?_
  ·
   refine Zf<|I1 (fun out3=>⟨[(3, .own 0 out3.length), (13, .sl 169 (List.map ZoJ ([(u32 sequence), (ZaL .u32 4294967295 (u32 sequence))] : List Int))), (14, .int .i64 (([(u32 sequence), (ZaL .u32 4294967295 (u32 sequence))] : List Int).length : Int)), (15, .int .i64 i)], [some ⟨5, List.map R5 out3⟩]⟩) h (fun h=>?_) fun out3 h=>?_
   ·
    refine Ze<|K4 3 13 14 15 Y<|Tr<|bE h fun x h_x h=>Rq Y (ZS (ov Y) (ov Y) Znk h_x)<|Rq Y (Zd (ov Y) ZpY Y)<|Ra Y<|Za<|K5 3 5 13 14 15 Y<|Tr<|Ra Y<|Za<|Ze<|?_
    obtain ⟨r2, hl2, ho2⟩ := QE h
    refine L2 (fun out4 k=>⟨[(3, .own 0 out4.length), (5, .int .u32 x), (6, .int .i64 k), (13, .sl 169 (List.map ZoJ ([(u32 sequence), (ZaL .u32 4294967295 (u32 sequence))] : List Int))), (14, .int .i64 (([(u32 sequence), (ZaL .u32 4294967295 (u32 sequence))] : List Int).length : Int)), (15, .int .i64 i)], [some ⟨5, List.map R5 out4⟩]⟩) hl2 (ES [some 0]) fun n2 out4 k h=>?_
    unfold Jb at h
    refine Zg<|Tr<|Rm Y<|R2 ZhA Y<|Za<|K7 3 5 6 13 14 15 20 Y<|If h Y (fun h=>?_) fun h=>?_
    ·
     exact Zf<|Zg<|Ze<|K6 3 5 6 13 14 15 Y<|Zp<|Rm Y<|Rm Y<|Rm Y<|bE h fun q h_q h=>Rq Y (ZaU (ov Y) (ov Y) h_q)<|Rq Y (Z4 (ov Y) ZnL tI5 Y)<|R_q (.sl 5<|List.map R5 ([(u8 q)] : List Int)) Y (Xw QF (.cons (cvs (ov Y)<|Zk Y) Y (.cons (.b Y) .nil) .nil) Y Y)<|bE h fun l h_l h=>Rx Y (Qo (ov Y) (QD (ov Y) tZ_5) QF Y Y Y (fun _=>Zb Y) Y h_l)<|Ra Y<|Za<|K6 3 5 6 13 14 15 Y<|Zp<|Rm Y<|R2 Za4 Y<|Ra Y<|Za<|⟨_, h, ES [some 0]⟩
    ·
     refine Zz<|?_
     replace h := lx h ▸ ho2
     exact ⟨_, h, ES [some 0]⟩
   ·
    exact Zp<|R2 ZF Y<|Rm Y<|Za<|⟨_, h, ES [some 0]⟩
  ·
   refine Zz<|?_
   replace h := lx h ▸ ho1
   exact ⟨_, h, ES [some 0]⟩
 ·
  refine Tr<|Rm Y<|Ra Y<|Za<|?_
  obtain rfl := rt h
  exact Zo (ZG Y (.one<|.tmp Y<|View.ownM Y Y D5))
theorem Zfb {s : List Int} {r : Int × Bool × Bool} (h : ZcL s = some r) :
 CSpec Tryz.prog gl0 35 [.sl 5 (List.map R5 s)] (.tuple [.int .i64 r.1, .bool r.2.1, .bool r.2.2]) := by
 unfold ZcL at h
 replace h := Qk h
 refine So Tryz.func35 Y fun w0 A=>Tr<|Ra Y<|Ra Y<|Ra Y<|Za<|Zg<|K2 0 2 Y<|Tr<|Rm Y<|Rl tZ_5 QF Y<|R2 ZD Y<|Za<|K3 0 2 8 Y<|If h Y (fun h=>?_) fun h=>?_
 ·
  refine K1 2 Y<|Tr<|Ra Y<|Ra Y<|Ra Y<|Za<|?_
  obtain rfl := rt h
  exact Zo (ZG Y (.three (rb Y) (rb Y)<|rb Y))
 ·
  refine Zf<|I1 (fun sequence=>⟨[(0, .sl 5 (List.map R5 s)), (2, .int .i64 sequence)], []⟩) h (fun h=>?_) fun sequence h=>?_
  ·
   refine K2 0 2 Y<|Tr<|Ra Y<|Za<|Ze<|?_
   obtain ⟨r1, hl1, ho1⟩ := QE h
   refine L2 (fun sequence2 k=>⟨[(0, .sl 5 (List.map R5 s)), (2, .int .i64 sequence2), (5, .int .i64 k)], []⟩) hl1 (ES []) fun n1 sequence2 k h=>?_
   unfold Zah at h
   refine Zg<|Tr<|Rm Y<|R2 ZD Y<|Za<|K4 0 2 5 10 Y<|If h Y (fun h=>?_) fun h=>?_
   ·
    exact Zf<|Zg<|Ze<|K3 0 2 5 Y<|Zp<|Rm Y<|R2 Zds Y<|Rm Y<|Rm Y<|bE h fun x h_x h=>Rq Y (ZS (ov Y) (ov Y) QF h_x)<|Rq Y (Zd (ov Y) tS5 Y)<|Rq Y (Z4 (ov Y) tI5 tI3 Y)<|R2 ZF Y<|Ra Y<|Za<|K3 0 2 5 Y<|Zp<|Rm Y<|R2 ZF Y<|Ra Y<|Za<|⟨_, h, ES []⟩
   ·
    refine Zz<|?_
    replace h := lx h ▸ ho1
    exact ⟨_, h, ES []⟩
  ·
   refine Zg<|Zg<|Qd (cw := md0) (by kernel_rfl)<|D1 0 Zc Y<|bE h fun y h_y h=>Dq 1 Y (Zn (XV h_y)<|.cons (ov Y) (.b Y)<|.cons (ov Y) (.b Y)<|.cons (ov Y) (.b Y) .nil)<|D1 2 Zc Y<|Dq 3 Y (.guarded (y == false) Y Y Y Y fun h => Zc<|ov Y)<|bE h fun y2 h_y2 h=>Dq 4 Y (.guarded (y == false) Y Y Y Y fun h => Zn (Zjq<|gdT h_y2 h)<|.cons (ow Y h) (.b Y) .nil)<|Dq 5 Y (.guarded (y == false) Y Y Y Y fun h => Zl4 (f := R5) (QD (ow Y h) tZ_5) (fun _=>Y) QF Zl7 ZpT)<|Dq 6 Y (.guarded (y == false) Y Y Y Y fun h => Zc<|ov Y)<|bE h fun l h_l h=>Dq 7 Y (.guarded (y == false) Y Y Y Y fun h => Zgj (ow Y h) QF on (oi<|ov Y)<|gdT h_l h)<|Dq 8 Y (.guarded (y == false) Y Y Y Y fun h => Zl4 (f := R5) (QD (ow Y h) tZ_5) (fun _=>Y) QF Zl7 ZpT)<|Dq 9 Y (.guarded (y == false) Y Y Y Y fun h => Znq (ow Y h)<|ow Y h)<|Dq 10 Y (Zdw (ov Y) fun hp=>ow Y<|gF hp)<|Dd<|K3 0 2 31 Y<|If h Y (fun h=>?_) fun h=>?_
   ·
    refine K1 2 Y<|Tr<|Ra Y<|Ra Y<|Ra Y<|Za<|?_
    obtain rfl := rt h
    exact Zo (ZG Y (.three (rb Y) (rb Y)<|rb Y))
   ·
    refine Zf<|Zg<|K2 0 2 Y<|Qd (cw := md0) (by kernel_rfl)<|D1 0 Zc Y<|D1 1 Zc Y<|bE h fun x2 h_x2 h=>Dq 2 Y (ZS (ov Y) (ov Y) QF h_x2)<|Dq 3 Y (Zd (ov Y) tS5 Y)<|D2 4 Q2 Y<|D1 5 Qp Y<|D1 6 Qp Y<|D1 7 Qp Y<|Dd<|?_
    obtain rfl := rt h
    exact Zo (ZG Y (.three (rb Y) (rb Y)<|rb Y))
theorem ZjO {m : api_Memory} {r : (List Int)} (h : Za0 m = some r) :
 CSpec Tryz.prog gl0 81 [.agg [.int .i64 m.Slots, .int .i64 m.Limit, .sl 49 (List.map R49 m.Sectors), .sl 3 (List.map R3 m.Wear), .sl 4 (List.map R4 m.Bad)]] (.sl 3 (List.map R3 r)) := by
 unfold Za0 at h
 replace h := Qk h
 refine So Tryz.func81 Y fun w0 A=>Tr<|Rq Y (ZbM (cva<|ov Y) Y tZ_26 Y)<|Ra Y<|Za<|K1 1 Y<|Tr<|Ra Y<|Za<|I1 (fun out=>⟨[(3, .own 0 out.length)], [some ⟨3, List.map R3 out⟩]⟩) h (fun h=>?_) fun out h=>?_
 ·
  refine Tr<|Rq Y (ZU (ov Y) ZP)<|Rq Y (Zd (ov Y) Qw Y)<|Rl tZ_49 Qm Y<|Rm Y<|Za<|Ze<|?_
  obtain ⟨r1, hl1, ho1⟩ := QE h
  refine L2 (fun out2 i=>⟨[(1, .rp [.int .i64 m.Slots, .int .i64 m.Limit, .sl 49 (List.map R49 m.Sectors), .sl 3 (List.map R3 m.Wear), .sl 4 (List.map R4 m.Bad)] 0), (3, .own 0 out2.length), (14, .sl 49 (List.map R49 m.Sectors)), (15, .int .i64 (m.Sectors.length : Int)), (16, .int .i64 i)], [some ⟨3, List.map R3 out2⟩]⟩) hl1 (ES [none]) fun n1 out2 i h=>?_
  unfold Za7 at h
  refine Tr<|R2 ZD Y<|Za<|Zg<|If h Y (fun h=>?_) fun h=>?_
  ·
   refine Zf<|Zg<|Ze<|K5 1 3 14 15 16 Y<|Tr<|Rm Y<|bE h fun x h_x h=>Rq Y (ZS (ov Y) (ov Y) Qm h_x)<|Rq Y (Zd (ov Y) ZfN Y)<|Ra Y<|Ra Y<|Za<|K7 1 3 4 5 14 15 16 Y<|Tr<|Rm Y<|bE h fun y h_y h=>Rq Y (Zn (Zfb h_y)<|.cons (ov Y) (.b Y) .nil)<|Rm Y<|Rq Y (Zj (ov Y) Y)<|Rq Y (Zj (ov Y) Y)<|Rq Y (Zj (ov Y) Y)<|Ra Y<|Ra Y<|Ra Y<|Za<|Zg<|K8 1 3 4 6 8 14 15 16 Y<|Tr<|Rm Y<|R1 XN Y<|Rm Y<|Rq Y (.guarded ((!y.2.2) == false) Y Y Y Y fun h => ZU (ov Y) ZeI)<|Rq Y (.guarded ((!y.2.2) == false) Y Y Y Y fun h => Zd (ow Y h) ZjR Y)<|Rq Y (.guarded ((!y.2.2) == false) Y Y Y Y fun h => Zc<|ov Y)<|bE h fun x2 h_x2 h=>Rq Y (.guarded ((!y.2.2) == false) Y Y Y Y fun h => ZS (ow Y h) (ow Y h) ZgF<|gdT h_x2 h)<|Rq Y (.guarded ((!y.2.2) == false) Y Y Y Y fun h => Zd (ow Y h) tS4 Y)<|Rq Y (Zdw (ov Y) fun hp=>ow Y<|gF hp)<|Za<|K8 1 3 4 6 14 15 16 35 Y<|If h Y (fun h=>?_) fun h=>?_
   ·
    exact Zz<|K5 1 3 14 15 16 Y<|Zp<|R2 ZF Y<|Rm Y<|Za<|⟨_, h, ES [some 0]⟩
   ·
    refine Zf<|K7 1 3 4 6 14 15 16 Y<|Tr<|Rm Y<|Rq Y (Zc0 (ov Y) Y Y QK)<|Ra Y<|Za<|I1 (fun at_=>⟨[(1, .rp [.int .i64 m.Slots, .int .i64 m.Limit, .sl 49 (List.map R49 m.Sectors), .sl 3 (List.map R3 m.Wear), .sl 4 (List.map R4 m.Bad)] 0), (3, .own 0 out2.length), (4, .int .i64 i), (9, .int .i64 at_), (14, .sl 49 (List.map R49 m.Sectors)), (15, .int .i64 (m.Sectors.length : Int)), (16, .int .i64 i)], [some ⟨3, List.map R3 out2⟩]⟩) h (fun h=>?_) fun at_ h=>?_
    ·
     refine Ze<|?_
     obtain ⟨r2, hl2, ho2⟩ := QE h
     refine L1 (fun at_2=>⟨[(1, .rp [.int .i64 m.Slots, .int .i64 m.Limit, .sl 49 (List.map R49 m.Sectors), .sl 3 (List.map R3 m.Wear), .sl 4 (List.map R4 m.Bad)] 0), (3, .own 0 out2.length), (4, .int .i64 i), (6, .int .i64 y.1), (9, .int .i64 at_2), (14, .sl 49 (List.map R49 m.Sectors)), (15, .int .i64 (m.Sectors.length : Int)), (16, .int .i64 i)], [some ⟨3, List.map R3 out2⟩]⟩) hl2 (ES [some 0]) fun n2 at_2 h=>?_
     unfold ZaM at h
     refine Zg<|Tr<|Rm Y<|R2 Za8 Y<|Za<|K9 1 3 4 6 9 14 15 16 39 Y<|If h Y (fun h=>?_) fun h=>?_
     ·
      refine Zf<|Ze<|Zg<|Zg<|K8 1 3 4 6 9 14 15 16 Y<|Qd (cw := md0) (by kernel_rfl)<|Dq 0 Y (ZU (ov Y) ZP)<|Dq 1 Y (Zd (ov Y) Qw Y)<|D1 2 Zc Y<|D1 3 Zc Y<|D2 4 Za4 Y<|bE h fun x3 h_x3 h=>Dq 5 Y (Qh (ov Y) (ov Y) QK Y Y h_x3)<|Dq 6 Y (Qu (ov Y) Y Y h_x3 tS3 Y)<|bE h fun x4 h_x4 h=>Dq 7 Y (ZS (ov Y) (ov Y) Qm h_x4)<|Dq 8 Y (Zd (ov Y) ZfN Y)<|bE h fun y2 h_y2 h=>Dq 9 Y (Zn (Zfb h_y2)<|.cons (ov Y) (.b Y) .nil)<|D1 10 Zc Y<|Dq 11 Y (Zj (ov Y) Y)<|Dq 12 Y (Zj (ov Y) Y)<|Dq 13 Y (Zj (ov Y) Y)<|D1 14 Qp Y<|D1 15 Qp Y<|D1 16 Qp Y<|Dd<|K9 1 3 4 6 9 10 14 15 16 Y<|Tr<|Rm Y<|Rm Y<|R2 ZhU Y<|Za<|K9 1 3 4 6 9 14 15 16 56 Y<|If h Y (fun h=>?_) fun h=>?_
      ·
       refine Zz<|?_
       replace h := lx h ▸ ho2
       exact ⟨_, h, ES [some 0]⟩
      ·
       exact Zf<|K8 1 3 4 6 9 14 15 16 Y<|Zp<|Rm Y<|R2 Za4 Y<|Ra Y<|Za<|⟨_, h, ES [some 0]⟩
     ·
      refine Zz<|?_
      replace h := lx h ▸ ho2
      exact ⟨_, h, ES [some 0]⟩
    ·
     exact Tr<|Rm Y<|R_q (.sl 3<|List.map R3 ([0] : List Int)) Y (Xw QK (.cons (cvs (ov Y)<|Zk Y) Y (.cons (.b Y) .nil) .nil) Y Y)<|bE h fun l h_l h=>Rx Y (Qo (ov Y) (QD (ov Y) tZ_3) QK Y Y Y (fun _=>Zb Y) Y h_l)<|Ra Y<|Za<|Zg<|K7 1 3 4 9 14 15 16 Y<|Qd (cw := md0) (by kernel_rfl)<|D1 0 Zc Y<|D1 1 Zc Y<|D2 2 ZF Y<|bE h fun u h_u h=>Dq 3 Y (ZlU (ov Y) Y Y QK (oi<|ov Y) on h_u)<|D1 4 Zc Y<|D1 5 Zc Y<|bE h fun u2 h_u2 h=>Dq 6 Y (ZlU (ov Y) Y Y QK (oi<|ov Y) on h_u2)<|Do 7 Y (Zl8 (g := C3) (ov Y) (ov Y) Y Y (fun _=>Y) (fun _=>Y) (fun _=>Y) QK (JY h_u)<|JY h_u2)<|Dd<|K7 1 3 4 9 14 15 16 Y<|Zp<|Rm Y<|Rm Y<|Rm Y<|bE h fun x5 h_x5 h=>Rq Y (Qh (ov Y) (ov Y) QK Y ((JE (JY h_u) (JY h_u2)).trans Y) h_x5)<|Rx Y (Xo (u' := i) (ov Y) (ov Y) (Zh tS3) Y ((JE (JY h_u) (JY h_u2)).trans Y) h_x5 Y (Zb Y) Y)<|Za<|K5 1 3 14 15 16 Y<|Zp<|R2 ZF Y<|Rm Y<|Za<|⟨_, h, ES [some 0]<|sd 1 Y Y<|sr 3 Y (Zdv (Eq.symm<|(List.length_set ..).trans<|(JE (JY h_u) (JY h_u2)).trans Y) Y)<|sd 14 Y Y<|sd 15 Y Y<|sd 16 Y Y sn⟩
  ·
   refine Zz<|?_
   replace h := lx h ▸ ho1
   exact ⟨_, h, ES [some 0]⟩
 ·
  refine Tr<|Rm Y<|Ra Y<|Za<|?_
  obtain rfl := rt h
  exact Zo (ZG Y (.one<|.tmp Y<|View.ownM Y Y D3))
theorem ZkR {xs r : List Int} (h : Zff 1 xs = some r) :
 GSpec Tryz.prog gl0 125 [.sl 5 (List.map R5 xs)] [] (.own 0 r.length) [some ⟨5, List.map R5 r⟩] := by
 have h2 : apz 1 [] xs = some r := h
 refine QZ (by kernel_rfl) Tryz.func125 Y Y<|?_
 intro w0 A W φ0
 refine Tr<|Ra Y<|Za<|Zg<|Zg<|Zp<|Rm Y<|Zkq (ov Y) Zpg Y fun b hb=>?_
 refine Za<|Zkx Y (fun hb2=>?_) fun hb2=>?_
 ·
  obtain rfl : xs = [] := by simpa using hb hb2
  obtain rfl : r = [] := by simpa [app, apz] using h2.symm
  exact Tr<|Ra Y<|Za<|Zo<|ZbQ [none] Y (.cons (.tmp Y) .nil) (.row 5 .nil) Y Y<|.row Y
 ·
  exact Zf<|Tr<|Rx Y (ZjQ (r := 0) (xs := []) (f := R5) Y QF .nil Y Y Y)<|Rm Y<|Rx Y (Zit (ov Y) (QD (ov Y) tZ_5) QF Y Y (fun _=>Zb Y) Y h2)<|Ra Y<|Za<|Zo<|ZbQ [some 0] Y (.cons (.tmp Y) .nil) (.cons Y (roM D5) .nil) Y Y<|.own _ Y
theorem Ziy {xs r : List Int} (h : Zff 8 xs = some r) :
 GSpec Tryz.prog gl0 126 [.sl 3 (List.map R3 xs)] [] (.own 0 r.length) [some ⟨3, List.map R3 r⟩] := by
 have h2 : apz 8 [] xs = some r := h
 refine QZ (by kernel_rfl) Tryz.func126 Y Y<|?_
 intro w0 A W φ0
 refine Tr<|Ra Y<|Za<|Zg<|Zg<|Zp<|Rm Y<|Zkq (ov Y) Zpc Y fun b hb=>?_
 refine Za<|Zkx Y (fun hb2=>?_) fun hb2=>?_
 ·
  obtain rfl : xs = [] := by simpa using hb hb2
  obtain rfl : r = [] := by simpa [app, apz] using h2.symm
  exact Tr<|Ra Y<|Za<|Zo<|ZbQ [none] Y (.cons (.tmp Y) .nil) (.row 3 .nil) Y Y<|.row Y
 ·
  exact Zf<|Tr<|Rx Y (ZjQ (r := 0) (xs := []) (f := R3) Y QK .nil Y Y Y)<|Rm Y<|Rx Y (Zit (ov Y) (QD (ov Y) tZ_3) QK Y Y (fun _=>Zb Y) Y h2)<|Ra Y<|Za<|Zo<|ZbQ [some 0] Y (.cons (.tmp Y) .nil) (.cons Y (roM D3) .nil) Y Y<|.own _ Y
theorem ZiF {xs r : List Bool} (h : Zff 1 xs = some r) :
 GSpec Tryz.prog gl0 127 [.sl 4 (List.map R4 xs)] [] (.own 0 r.length) [some ⟨4, List.map R4 r⟩] := by
 have h2 : apz 1 [] xs = some r := h
 refine QZ (by kernel_rfl) Tryz.func127 Y Y<|?_
 intro w0 A W φ0
 refine Tr<|Ra Y<|Za<|Zg<|Zg<|Zp<|Rm Y<|Zkq (ov Y) ZpQ Y fun b hb=>?_
 refine Za<|Zkx Y (fun hb2=>?_) fun hb2=>?_
 ·
  obtain rfl : xs = [] := by simpa using hb hb2
  obtain rfl : r = [] := by simpa [app, apz] using h2.symm
  exact Tr<|Ra Y<|Za<|Zo<|ZbQ [none] Y (.cons (.tmp Y) .nil) (.row 4 .nil) Y Y<|.row Y
 ·
  exact Zf<|Tr<|Rx Y (ZjQ (r := 0) (xs := []) (f := R4) Y ZgF .nil Y Y Y)<|Rm Y<|Rx Y (Zit (ov Y) (QD (ov Y) tZ_4) ZgF Y Y (fun _=>Zb Y) Y h2)<|Ra Y<|Za<|Zo<|ZbQ [some 0] Y (.cons (.tmp Y) .nil) (.cons Y (roM D4) .nil) Y Y<|.own _ Y
theorem Zdr {m : api_Memory} {r : api_Memory} (h : Zam m = some r) :
 GSpec Tryz.prog gl0 93 [.agg [.int .i64 m.Slots, .int .i64 m.Limit, .sl 49 (List.map R49 m.Sectors), .sl 3 (List.map R3 m.Wear), .sl 4 (List.map R4 m.Bad)]] [] (.agg [.int .i64 r.Slots, .int .i64 r.Limit, .own 0 r.Sectors.length, .own 1 r.Wear.length, .own 2 r.Bad.length]) [some ⟨49, List.map O49 r.Sectors⟩, some ⟨3, List.map R3 r.Wear⟩, some ⟨4, List.map R4 r.Bad⟩] := by
 unfold Zam at h
 replace h := Qk h
 refine QZ (by kernel_rfl) Tryz.func93 Y Y<|?_
 intro w0 A W φ0
 refine Tr<|Rx Y (Zl6 0 Y (ov Y) X5 Y)<|Rx Y (Z3 (row := [_, _, _, _, _]) 1 Y Zdx Y tZ_26)<|Za<|K2 1 2 Y<|Tr<|Ra Y<|Za<|I1 (fun sectors=>⟨[(1, .ptr 0 1 0 0), (2, .ptr 1 1 0 0), (3, .own 2 sectors.length)], [some ⟨26, [[.int .i64 m.Slots, .int .i64 m.Limit, .sl 49 (List.map R49 m.Sectors), .sl 3 (List.map R3 m.Wear), .sl 4 (List.map R4 m.Bad)]]⟩, some ⟨26, [[.int .i64 0, .int .i64 0, .nils, .nils, .nils]]⟩, some ⟨49, List.map O49 sectors⟩]⟩) h (fun h=>?_) fun sectors h=>?_
 ·
  refine Tr<|Rq Y (Zi (ov Y) Y Y ZP)<|Rq Y (Zw (ov Y) Y Y Y Qw Y)<|Rl tZ_49 Qm Y<|Rm Y<|Za<|Ze<|?_
  obtain ⟨r1, hl1, ho1⟩ := QE h
  refine L2 (fun sectors2 i=>⟨[(1, .ptr 0 1 0 0), (2, .ptr 1 1 0 0), (3, .own 2 sectors2.length), (7, .sl 49 (List.map R49 m.Sectors)), (8, .int .i64 (m.Sectors.length : Int)), (9, .int .i64 i)], [some ⟨26, [[.int .i64 m.Slots, .int .i64 m.Limit, .sl 49 (List.map R49 m.Sectors), .sl 3 (List.map R3 m.Wear), .sl 4 (List.map R4 m.Bad)]]⟩, some ⟨26, [[.int .i64 0, .int .i64 0, .nils, .nils, .nils]]⟩, some ⟨49, List.map O49 sectors2⟩]⟩) hl1 (ES [some 0, some 1, none]) fun n1 sectors2 i h=>?_
  unfold Zak at h
  refine Tr<|R2 ZD Y<|Za<|Zg<|If h Y (fun h=>?_) fun h=>?_
  ·
   exact Zf<|Zg<|Ze<|K6 1 2 3 7 8 9 Y<|Tr<|bE h fun x h_x h=>Rq Y (ZS (ov Y) (ov Y) Qm h_x)<|Rq Y (Zd (ov Y) ZfN Y)<|Ra Y<|Za<|K7 1 2 3 5 7 8 9 Y<|Zp<|Rm Y<|Rm Y<|bE h fun y h_y h=>Rx Y (ZO [] (ZkR h_y) (.cons (ov Y) (.dat Y) .nil) .nil Y (.keep Y Y<|.keep Y Y<|.keep Y Y<|.lent 0 (.inr ⟨Nat.le_of_ble_eq_true Y, Y⟩) Y (roM D5) .nil) Y Y<|.own _<|.inr ⟨Nat.le_of_ble_eq_true Y, Y⟩)<|Rx Y (QW (r := 4) Y Qm (.cons (cvs (ov Y)<|Zk Y) Y .nil) Y Y)<|bE h fun l h_l h=>Rx Y (ZV (f := O49) (ov Y) (Qr (o := ⟨49, [[.own 3 y.length]]⟩) (ov Y) Y Y tZ_49) Qm Y Y (Zb Y) Y h_l)<|Ra Y<|ZfY [some ⟨26, [[.int .i64 m.Slots, .int .i64 m.Limit, .sl 49 (List.map R49 m.Sectors), .sl 3 (List.map R3 m.Wear), .sl 4 (List.map R4 m.Bad)]]⟩, some ⟨26, [[.int .i64 0, .int .i64 0, .nils, .nils, .nils]]⟩, some ⟨49, List.set (List.map O49 l) sectors2.length [.own 3 y.length]⟩, some ⟨5, List.map R5 y⟩, some ⟨49, [[.own 3 y.length]]⟩] Y<|Xn (Ent.absorbH (r := 2) (j := 0) (q := 3) Y (Zr h_l) Y Y (List.length_map ..) Y)<|Xn (Ent.closeS (r := 2) Y (Zr h_l) Y)<|Za<|K6 1 2 3 7 8 9 Y<|XC [some ⟨26, [[.int .i64 m.Slots, .int .i64 m.Limit, .sl 49 (List.map R49 m.Sectors), .sl 3 (List.map R3 m.Wear), .sl 4 (List.map R4 m.Bad)]]⟩, some ⟨26, [[.int .i64 0, .int .i64 0, .nils, .nils, .nils]]⟩, some ⟨49, List.map O49 l⟩, none, some ⟨49, [[.own 3 y.length]]⟩] Y<|Zp<|R2 ZF Y<|Rm Y<|Za<|⟨_, h, ES [some 0, some 1, some 2] (hhp := .cons Y (ro1 (by exact tZ_26.symm)<|rld Y)<|.cons Y (ro1 (by exact tZ_26.symm)<|rld Y)<|.cons Y (roO Jm) .nil)⟩
  ·
   refine Zz<|?_
   replace h := lx h ▸ ho1
   exact ⟨_, h, ES [some 0, some 1, some 2] (hhp := .cons Y (ro1 (by exact tZ_26.symm)<|rld Y)<|.cons Y (ro1 (by exact tZ_26.symm)<|rld Y)<|.cons Y (roO Jm) .nil)⟩
 ·
  refine Zg<|Qd (cw := ⟨true, true, [some ⟨26, [[.int .i64 m.Slots, .int .i64 m.Limit, .sl 49 (List.map R49 m.Sectors), .sl 3 (List.map R3 m.Wear), .sl 4 (List.map R4 m.Bad)]]⟩, some ⟨26, [[.int .i64 0, .int .i64 0, .nils, .nils, .nils]]⟩, some ⟨49, List.map O49 sectors⟩], [], [0]⟩) (by kernel_rfl)<|Dq 1 Y (Zi (ov Y) Y Y Zfx)<|Dq 2 Y (Zw (ov Y) Y Y Y ZkK Y)<|Qc 0 _ Y (by kernel_rfl) Y Y (fun hp'=>Zc<|ov Y)<|Js 4 _ Y (by kernel_rfl) Y Y Y (EL.ext<|.wr Y Y Y<|.keep<|.keep .nil) (fun hp' hx=>exW (r := 0) hx Y fun _ ho hn => Zi (ov Y) ho hn ZeI)<|bE h fun y2 h_y2 h=>ZnQ 5 3 Y Y (by kernel_rfl) Y Y Y Y (fun h=>by cases h) (fun _=>by exact EL.ext (.wr rfl rfl rfl <| .keep <| .keep <| .nil)) (Zw (ov Y) Y Y Y ZjR Y) (ZO [] (Ziy h_y2) (.cons (ov Y) (.dat Y) .nil) .nil Y (.keep Y Y<|.keep Y Y<|.keep Y Y<|.lent 0 (.inr ⟨Nat.le_of_ble_eq_true Y, Y⟩) Y (roM D3) .nil) Y Y<|.own _<|.inr ⟨Nat.le_of_ble_eq_true Y, Y⟩) ?_ ?_
  ·
   refine Js 7 _ Y (by kernel_rfl) Y Y Y (EL.ext<|.wr Y Y Y<|.keep<|.keep .nil) (fun hp' hx=>exW (r := 0) hx Y fun _ ho hn => Zi (ov Y) ho hn ZP)<|ZaG 3 _ _ Y (by kernel_rfl) Y Y (fun h=>by cases h) (fun _=>by exact EL.ext (.wr rfl rfl rfl <| .keep <| .keep <| .nil)) (ZO [] (Ziy h_y2) (.cons (ov Y) (.dat Y) .nil) .nil Y (.keep Y Y<|.keep Y Y<|.keep Y Y<|.lent 0 (.inr ⟨Nat.le_of_ble_eq_true Y, Y⟩) Y (roM D3) .nil) Y Y<|.own _<|.inr ⟨Nat.le_of_ble_eq_true Y, Y⟩)<|bE h fun y3 h_y3 h=>ZaG 6 _ _ Y (by kernel_rfl) Y Y (fun h=>by cases h) (fun _=>by exact EL.ext (.wr rfl rfl rfl <| .keep <| .keep <| .nil)) (ZO [] (ZiF h_y3) (.cons (ov Y) (.dat Y) .nil) .nil Y (.keep Y Y<|.keep Y Y<|.keep Y Y<|.keep Y Y<|.lent 0 (.inr ⟨Nat.le_of_ble_eq_true Y, Y⟩) Y (roM D4) .nil) Y Y<|.own _<|.inr ⟨Nat.le_of_ble_eq_true Y, Y⟩)<|ZaG 8 _ _ Y (by kernel_rfl) Y Y (fun h=>by cases h) (fun _=>by exact EL.ext (.wr rfl rfl rfl <| .keep <| .keep <| .nil)) (Zl (ov Y) (ov Y) (Zh Qw) Y Y Y (Nat.le_of_ble_eq_true Y) (Zb Y) Y)<|Dq 9 Y (Zi (ov Y) Y Y Zfx)<|ZaG 10 _ _ Y (by kernel_rfl) Y Y (fun h=>by cases h) (fun _=>by exact EL.ext (.wr rfl rfl rfl <| .keep <| .keep <| .nil)) (Zl (ov Y) (ov Y) (Zh ZkK) Y Y Y (Nat.le_of_ble_eq_true Y) (Zb Y) Y)<|Dq 11 Y (Zi (ov Y) Y Y ZeI)<|ZaG 12 _ _ Y (by kernel_rfl) Y Y (fun h=>by cases h) (fun _=>by exact EL.ext (.wr rfl rfl rfl <| .keep <| .keep <| .nil)) (Zl (ov Y) (ov Y) (Zh ZjR) Y Y Y (Nat.le_of_ble_eq_true Y) (Zb Y) Y)<|Dd<|K2 1 2 Y<|XC [some ⟨26, [[.int .i64 m.Slots, .int .i64 m.Limit, .own 2 sectors.length, .own 3 y2.length, .own 4 y3.length]]⟩, some ⟨26, [[.int .i64 0, .int .i64 0, .nils, .nils, .nils]]⟩, some ⟨49, List.map O49 sectors⟩, some ⟨3, List.map R3 y2⟩, some ⟨4, List.map R4 y3⟩] Y<|Tr<|Rq Y (Qe (ov Y) Y Y Y X5 Y Y)<|Rx Y (Zl (ov Y) (ov Y) (Zv X5 Y) Y Y Y (Nat.le_of_ble_eq_true Y) (Zb Y) Y)<|Za<|?_
   obtain rfl := rt h
   exact Zo<|ZbQ [some 2, some 3, some 4] Y (.cons (.agg Y Y Y Y X5 Y Y) .nil) (.cons Y (roO Jm)<|.cons Y (roM D3)<|.cons Y (roM D4) .nil) Y Y<|ZfQ<|rlc (.dat Y)<|rlc (.dat Y)<|rlc (.own _ Y)<|rlc (.own _ Y)<|rlc (.own _ Y) rln
  ·
   refine Dq 5 Y (Zw (ov Y) Y Y Y ZjR Y)<|Js 7 _ Y (by kernel_rfl) Y Y Y (EL.ext<|.wr Y Y Y<|.keep<|.keep .nil) (fun hp' hx=>exW (r := 0) hx Y fun _ ho hn => Zi (ov Y) ho hn ZP)<|bE h fun y3 h_y3 h=>ZaG 6 _ _ Y (by kernel_rfl) Y Y (fun h=>by cases h) (fun _=>by exact EL.ext (.wr rfl rfl rfl <| .keep <| .keep <| .nil)) (ZO [] (ZiF h_y3) (.cons (ov Y) (.dat Y) .nil) .nil Y (.keep Y Y<|.keep Y Y<|.keep Y Y<|.keep Y Y<|.lent 0 (.inr ⟨Nat.le_of_ble_eq_true Y, Y⟩) Y (roM D4) .nil) Y Y<|.own _<|.inr ⟨Nat.le_of_ble_eq_true Y, Y⟩)<|ZaG 8 _ _ Y (by kernel_rfl) Y Y (fun h=>by cases h) (fun _=>by exact EL.ext (.wr rfl rfl rfl <| .keep <| .keep <| .nil)) (Zl (ov Y) (ov Y) (Zh Qw) Y Y Y (Nat.le_of_ble_eq_true Y) (Zb Y) Y)<|Dq 9 Y (Zi (ov Y) Y Y Zfx)<|ZaG 10 _ _ Y (by kernel_rfl) Y Y (fun h=>by cases h) (fun _=>by exact EL.ext (.wr rfl rfl rfl <| .keep <| .keep <| .nil)) (Zl (ov Y) (ov Y) (Zh ZkK) Y Y Y (Nat.le_of_ble_eq_true Y) (Zb Y) Y)<|Dq 11 Y (Zi (ov Y) Y Y ZeI)<|ZaG 12 _ _ Y (by kernel_rfl) Y Y (fun h=>by cases h) (fun _=>by exact EL.ext (.wr rfl rfl rfl <| .keep <| .keep <| .nil)) (Zl (ov Y) (ov Y) (Zh ZjR) Y Y Y (Nat.le_of_ble_eq_true Y) (Zb Y) Y)<|Dd<|K2 1 2 Y<|XC [some ⟨26, [[.int .i64 m.Slots, .int .i64 m.Limit, .own 2 sectors.length, .own 3 y2.length, .own 4 y3.length]]⟩, some ⟨26, [[.int .i64 0, .int .i64 0, .nils, .nils, .nils]]⟩, some ⟨49, List.map O49 sectors⟩, some ⟨3, List.map R3 y2⟩, some ⟨4, List.map R4 y3⟩] Y<|Tr<|Rq Y (Qe (ov Y) Y Y Y X5 Y Y)<|Rx Y (Zl (ov Y) (ov Y) (Zv X5 Y) Y Y Y (Nat.le_of_ble_eq_true Y) (Zb Y) Y)<|Za<|?_
   obtain rfl := rt h
   exact Zo<|ZbQ [some 2, some 3, some 4] Y (.cons (.agg Y Y Y Y X5 Y Y) .nil) (.cons Y (roO Jm)<|.cons Y (roM D3)<|.cons Y (roM D4) .nil) Y Y<|ZfQ<|rlc (.dat Y)<|rlc (.dat Y)<|rlc (.own _ Y)<|rlc (.own _ Y)<|rlc (.own _ Y) rln
end Go.Proofs.YtnlmjeleocelgaaGreatDoor
