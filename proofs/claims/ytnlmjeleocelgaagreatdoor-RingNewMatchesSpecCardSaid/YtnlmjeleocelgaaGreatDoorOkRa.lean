/- A text of the proof: a verified executor of the program form, or the contracts of the functions that the law reaches. -/
import Derived.Test.YtnlmjeleocelgaaGreatDoorVS
import Derived.Test.YtnlmjeleocelgaaGreatDoorPA
import Derived.Test.YtnlmjeleocelgaaGreatDoorProg
import Derived.Test.YtnlmjeleocelgaaGreatDoorLayZ
set_option linter.all false
namespace Go.Proofs.YtnlmjeleocelgaaGreatDoor
open Go Go.Vx
set_option maxRecDepth 10000
set_option maxHeartbeats 2000000
set_option linter.unusedVariables false
theorem Q8 : XE Tryz.prog 26 = some [.int .i64 0, .int .i64 0, .slice none 0 0, .slice none 0 0, .slice none 0 0] := by kernel_rfl
theorem tZ_26 : Tryz.prog.cellsOf 26 = 5 := by kernel_rfl
instance : SzD Tryz.prog 26 5 := ⟨tZ_26⟩
theorem JR : ZbH Tryz.prog 26 = some [(0, 1), (1, 1), (2, 1), (3, 1), (4, 1)] := by kernel_rfl
theorem JS : Zek Tryz.prog 26 = true := by kernel_rfl
theorem Qu : tAgg Tryz.prog 26 5 = true := by kernel_rfl
theorem tZ_3 : Tryz.prog.cellsOf 3 = 1 := by kernel_rfl
instance : SzD Tryz.prog 3 1 := ⟨tZ_3⟩
theorem QH : tSl Tryz.prog 23 3 1 8 = true := by kernel_rfl
theorem tZ3 : XE Tryz.prog 3 = some [.int .i64 0] := by kernel_rfl
theorem tZ_4 : Tryz.prog.cellsOf 4 = 1 := by kernel_rfl
instance : SzD Tryz.prog 4 1 := ⟨tZ_4⟩
theorem Zb0 : tSl Tryz.prog 24 4 1 1 = true := by kernel_rfl
theorem tZ4 : XE Tryz.prog 4 = some [.bool false] := by kernel_rfl
theorem Zp : tFld Tryz.prog 26 2 2 = true := by kernel_rfl
theorem ZD : tScal Tryz.prog 22 = true := by kernel_rfl
theorem Qg : tSl Tryz.prog 49 5 1 1 = true := by kernel_rfl
theorem tZ_5 : Tryz.prog.cellsOf 5 = 1 := by kernel_rfl
instance : SzD Tryz.prog 5 1 := ⟨tZ_5⟩
theorem tI3 : tInt Tryz.prog 3 .i64 = true := by kernel_rfl
theorem ZjX : tInt Tryz.prog 132 .u64 = true := by kernel_rfl
theorem tZ5 : XE Tryz.prog 5 = some [.int .u8 0] := by kernel_rfl
theorem Zz : tSl Tryz.prog 22 49 1 24 = true := by kernel_rfl
theorem tZ_49 : Tryz.prog.cellsOf 49 = 1 := by kernel_rfl
instance : SzD Tryz.prog 49 1 := ⟨tZ_49⟩
theorem tS5 : tScal Tryz.prog 5 = true := by kernel_rfl
theorem Ze3 : tFld Tryz.prog 26 0 0 = true := by kernel_rfl
theorem tS3 : tScal Tryz.prog 3 = true := by kernel_rfl
theorem ZgO : tFld Tryz.prog 26 1 1 = true := by kernel_rfl
theorem Zfl : tScal Tryz.prog 49 = true := by kernel_rfl
theorem Zlq : tU8 Tryz.prog 5 = true := by kernel_rfl
theorem Zi4 : tStr Tryz.prog 9 = true := by kernel_rfl
theorem Zdy : tFld Tryz.prog 26 3 3 = true := by kernel_rfl
theorem Zh4 : tScal Tryz.prog 23 = true := by kernel_rfl
theorem Zd1 : tFld Tryz.prog 26 4 4 = true := by kernel_rfl
theorem ZhO : tScal Tryz.prog 24 = true := by kernel_rfl
theorem tS4 : tScal Tryz.prog 4 = true := by kernel_rfl
theorem tB4 : (match Tryz.prog.underlying 4 with | some .bool => true | _ => false) = true := by kernel_rfl
theorem Zfv : XE Tryz.prog 42 = some [.int .u16 0, .int .u16 0, .int .u16 0, .int .u16 0, .int .u16 0, .int .u16 0, .int .u16 0, .int .u16 0, .int .u16 0, .int .u16 0, .int .u16 0, .int .u16 0, .int .u16 0, .int .u16 0, .int .u16 0, .int .u16 0, .int .u16 0, .int .u16 0, .int .u16 0, .int .u16 0, .int .u16 0, .int .u16 0, .int .u16 0, .int .u16 0, .int .u16 0, .int .u16 0, .int .u16 0, .int .u16 0, .int .u16 0, .int .u16 0, .int .u16 0, .int .u16 0, .int .u16 0, .int .u16 0, .int .u16 0, .int .u16 0, .int .u16 0, .int .u16 0, .int .u16 0, .int .u16 0, .int .u16 0, .int .u16 0, .int .u16 0, .int .u16 0, .int .u16 0, .int .u16 0, .int .u16 0, .int .u16 0, .int .u16 0, .int .u16 0, .int .u16 0, .int .u16 0, .int .u16 0, .int .u16 0, .int .u16 0, .int .u16 0, .int .u16 0, .int .u16 0, .int .u16 0, .int .u16 0, .int .u16 0, .int .u16 0, .int .u16 0, .int .u16 0] := by kernel_rfl
theorem tZ_42 : Tryz.prog.cellsOf 42 = 64 := by kernel_rfl
instance : SzD Tryz.prog 42 64 := ⟨tZ_42⟩
theorem JL : tArr Tryz.prog 42 64 40 1 = true := by kernel_rfl
theorem XT : tAgg Tryz.prog 42 64 = true := by kernel_rfl
theorem ZcJ : tInt Tryz.prog 40 .u16 = true := by kernel_rfl
theorem ZaG : tScal Tryz.prog 40 = true := by kernel_rfl
theorem ZkT : tArr Tryz.prog 196 4 3 1 = true := by kernel_rfl
theorem ZlL : XE Tryz.prog 196 = some [.int .i64 0, .int .i64 0, .int .i64 0, .int .i64 0] := by kernel_rfl
theorem ZcD : tSl Tryz.prog 33 26 5 88 = true := by kernel_rfl
theorem Zlc : ZbH Tryz.prog 102 = some [(0, 2), (2, 1), (3, 1), (4, 1), (5, 1), (6, 1)] := by kernel_rfl
theorem Zk0 : Zek Tryz.prog 102 = true := by kernel_rfl
theorem Zlv : XE Tryz.prog 102 = some [.slice none 0 0, .slice none 0 0, .int .i64 0, .bool false, .bool false, .int .i64 0, .bool false] := by kernel_rfl
theorem Zlz : tAgg Tryz.prog 102 7 = true := by kernel_rfl
theorem ZkZ : (match Tryz.prog.underlying 49 with | some (.slice _) => true | _ => false) = true := by kernel_rfl
theorem Zld : (match Tryz.prog.underlying 23 with | some (.slice _) => true | _ => false) = true := by kernel_rfl
theorem Zlf : (match Tryz.prog.underlying 24 with | some (.slice _) => true | _ => false) = true := by kernel_rfl
theorem ZcO : tFld Tryz.prog 102 0 0 = true := by kernel_rfl
theorem Zci : tFld Tryz.prog 100 0 0 = true := by kernel_rfl
theorem Zh1 : tScal Tryz.prog 33 = true := by kernel_rfl
theorem ZhF : XE Tryz.prog 105 = some [.int .i64 0, .int .i64 0] := by kernel_rfl
theorem tZ_105 : Tryz.prog.cellsOf 105 = 2 := by kernel_rfl
instance : SzD Tryz.prog 105 2 := ⟨tZ_105⟩
theorem ZlQ : XE Tryz.prog 92 = some [.nilFunc] := by kernel_rfl
theorem tZ_92 : Tryz.prog.cellsOf 92 = 1 := by kernel_rfl
instance : SzD Tryz.prog 92 1 := ⟨tZ_92⟩
theorem Zlk : tScal Tryz.prog 92 = true := by kernel_rfl
theorem ZgM : tArr Tryz.prog 225 16 5 1 = true := by kernel_rfl
theorem tI5 : tInt Tryz.prog 5 .u8 = true := by kernel_rfl
theorem ZiI : ZbH Tryz.prog 105 = some [(0, 1), (1, 1)] := by kernel_rfl
theorem ZiR : Zek Tryz.prog 105 = true := by kernel_rfl
theorem ZfR : tAgg Tryz.prog 105 2 = true := by kernel_rfl
theorem Zes : tFld Tryz.prog 105 0 0 = true := by kernel_rfl
theorem Zi1 : tArr Tryz.prog 224 97 5 1 = true := by kernel_rfl
theorem Zfp : tFld Tryz.prog 105 1 1 = true := by kernel_rfl
theorem ZdD : tFld Tryz.prog 100 1 1 = true := by kernel_rfl
theorem ZiL : tScal Tryz.prog 98 = true := by kernel_rfl
theorem ZiT : tSl Tryz.prog 98 105 2 16 = true := by kernel_rfl
theorem ZhT : tFld Tryz.prog 102 2 3 = true := by kernel_rfl
theorem tZ_102 : Tryz.prog.cellsOf 102 = 7 := by kernel_rfl
instance : SzD Tryz.prog 102 7 := ⟨tZ_102⟩
theorem ZiZ : tFld Tryz.prog 102 3 4 = true := by kernel_rfl
theorem Zhg : ZbH Tryz.prog 149 = some [(0, 1), (1, 1)] := by kernel_rfl
theorem Zhe : Zek Tryz.prog 149 = true := by kernel_rfl
theorem Zif : XE Tryz.prog 149 = some [.int .i64 0, .int .i64 0] := by kernel_rfl
theorem Zdf : tSl Tryz.prog 108 149 2 16 = true := by kernel_rfl
theorem tZ_149 : Tryz.prog.cellsOf 149 = 2 := by kernel_rfl
instance : SzD Tryz.prog 149 2 := ⟨tZ_149⟩
theorem Zlr : tArr Tryz.prog 150 4 40 1 = true := by kernel_rfl
theorem Zkv : tFld Tryz.prog 102 1 2 = true := by kernel_rfl
theorem ZkW : XE Tryz.prog 157 = some [.int .u8 0, .int .u8 0, .int .u8 0, .int .u8 0, .int .u8 0, .int .u8 0, .int .u8 0, .int .u8 0, .int .u8 0, .int .u8 0, .int .u8 0, .int .u8 0, .int .u8 0, .int .u8 0, .int .u8 0, .int .u8 0, .int .u8 0, .int .u8 0, .int .u8 0, .int .u8 0, .int .u8 0, .int .u8 0, .int .u8 0, .int .u8 0, .int .u8 0, .int .u8 0, .int .u8 0, .int .u8 0, .int .u8 0, .int .u8 0, .int .u8 0, .int .u8 0, .int .u8 0, .int .u8 0, .int .u8 0, .int .u8 0, .int .u8 0, .int .u8 0, .int .u8 0, .int .u8 0, .int .u8 0, .int .u8 0, .int .u8 0, .int .u8 0, .int .u8 0, .int .u8 0, .int .u8 0, .int .u8 0, .int .u8 0, .int .u8 0, .int .u8 0, .int .u8 0, .int .u8 0, .int .u8 0, .int .u8 0, .int .u8 0, .int .u8 0, .int .u8 0, .int .u8 0, .int .u8 0, .int .u8 0, .int .u8 0, .int .u8 0, .int .u8 0, .int .u8 0, .int .u8 0, .int .u8 0, .int .u8 0, .int .u8 0, .int .u8 0, .int .u8 0, .int .u8 0, .int .u8 0, .int .u8 0, .int .u8 0, .int .u8 0, .int .u8 0, .int .u8 0, .int .u8 0, .int .u8 0, .int .u8 0, .int .u8 0, .int .u8 0, .int .u8 0, .int .u8 0, .int .u8 0, .int .u8 0, .int .u8 0, .int .u8 0, .int .u8 0, .int .u8 0, .int .u8 0, .int .u8 0, .int .u8 0, .int .u8 0, .int .u8 0] := by kernel_rfl
theorem tZ_157 : Tryz.prog.cellsOf 157 = 96 := by kernel_rfl
instance : SzD Tryz.prog 157 96 := ⟨tZ_157⟩
theorem ZcR : tArr Tryz.prog 157 96 5 1 = true := by kernel_rfl
theorem Zku : tFld Tryz.prog 102 4 5 = true := by kernel_rfl
theorem Zkw : tFld Tryz.prog 102 5 6 = true := by kernel_rfl
theorem ZkS : tAgg Tryz.prog 157 96 = true := by kernel_rfl
theorem Zlu : ZbH Tryz.prog 65 = some [(0, 1), (1, 1), (2, 1), (3, 1), (4, 64)] := by kernel_rfl
theorem ZlD : Zek Tryz.prog 65 = true := by kernel_rfl
theorem Zll : XE Tryz.prog 65 = some ([.int .i64 0, .int .i64 0, .int .i64 0, .int .i64 0] ++ (List.flatten (List.replicate 64 [.int .u16 0]))) := by kernel_rfl
theorem Zks : tSl Tryz.prog 60 65 68 160 = true := by kernel_rfl
theorem tZ_65 : Tryz.prog.cellsOf 65 = 68 := by kernel_rfl
instance : SzD Tryz.prog 65 68 := ⟨tZ_65⟩
theorem ZhS : tMap Tryz.prog 127 3 65 = true := by kernel_rfl
theorem ZkY : ZiY Tryz.prog 65 = some (.agg (([.int .i64 0, .int .i64 0, .int .i64 0, .int .i64 0] ++ (List.flatten (List.replicate 64 [.int .u16 0]))) : List Value).toArray) := by kernel_rfl
theorem Zkt : tAgg Tryz.prog 65 68 = true := by kernel_rfl
theorem ZjC : tFld Tryz.prog 65 4 4 = true := by kernel_rfl
theorem Zkd : tFld Tryz.prog 65 2 2 = true := by kernel_rfl
theorem tZ_127 : Tryz.prog.cellsOf 127 = 1 := by kernel_rfl
instance : SzD Tryz.prog 127 1 := ⟨tZ_127⟩
theorem ZkK : Zki Tryz.prog 65 4 4 42 64 = true := by kernel_rfl
theorem ZkF : tSl Tryz.prog 66 42 64 128 = true := by kernel_rfl
theorem tZ_169 : Tryz.prog.cellsOf 169 = 1 := by kernel_rfl
instance : SzD Tryz.prog 169 1 := ⟨tZ_169⟩
def gl0 : Gl := ⟨1, [(0, (gv_frame_syncs.toList.map fun z => Value.int .u16 z).toArray)]⟩
def R3 (x : Int) : List AV := [.int .i64 x]
def R4 (x : Bool) : List AV := [.bool x]
theorem D3 (x : Int) : (R3 x).length = Tryz.prog.cellsOf 3 ∧ (R3 x).all datB = true := ⟨tZ_3.symm, rfl⟩
instance : RowD Tryz.prog 3 R3 := ⟨D3⟩
theorem D4 (x : Bool) : (R4 x).length = Tryz.prog.cellsOf 4 ∧ (R4 x).all datB = true := ⟨tZ_4.symm, rfl⟩
instance : RowD Tryz.prog 4 R4 := ⟨D4⟩
def R5 (x : Int) : List AV := [.int .u8 x]
def C5 (x : Int) : AV := .int .u8 x
theorem D5 (x : Int) : (R5 x).length = Tryz.prog.cellsOf 5 ∧ (R5 x).all datB = true := ⟨tZ_5.symm, rfl⟩
instance : RowD Tryz.prog 5 R5 := ⟨D5⟩
def R49 (x : List Int) : List AV := [.sl 5 (List.map R5 x)]
theorem D49 (x : List Int) : (R49 x).length = Tryz.prog.cellsOf 49 ∧ (R49 x).all datB = true := ⟨tZ_49.symm, rfl⟩
instance : RowD Tryz.prog 49 R49 := ⟨D49⟩
theorem DR5 (x : Int) : (R5 x).length = Tryz.prog.cellsOf 5 ∧ Zca Tryz.prog (R5 x) := ⟨(D5 x).1, dlF rfl⟩
def O49 (x : List Int) : List AV := [.osub 5 (List.map R5 x)]
theorem ZW (x : List Int) : (O49 x).length = Tryz.prog.cellsOf 49 ∧ Zca Tryz.prog (O49 x) := ⟨tZ_49.symm, dlC (dcS DR5) <| dlN⟩
theorem Zj0 (x : List Int) : Pw (MeltC Tryz.prog) (O49 x) (R49 x) := .cons (mcS DR5 (fun x => (D5 x).1) (fun _ => mcF rfl)) <| .nil
def C40 (x : Int) : AV := .int .u16 x
def C3 (x : Int) : AV := .int .i64 x
def R26 (x : api_Memory) : List AV := [.int .i64 x.Slots, .int .i64 x.Limit, .sl 49 (List.map R49 x.Sectors), .sl 3 (List.map R3 x.Wear), .sl 4 (List.map R4 x.Bad)]
theorem D26 (x : api_Memory) : (R26 x).length = Tryz.prog.cellsOf 26 ∧ (R26 x).all datB = true := ⟨tZ_26.symm, rfl⟩
instance : RowD Tryz.prog 26 R26 := ⟨D26⟩
theorem DR3 (x : Int) : (R3 x).length = Tryz.prog.cellsOf 3 ∧ Zca Tryz.prog (R3 x) := ⟨(D3 x).1, dlF rfl⟩
theorem DR4 (x : Bool) : (R4 x).length = Tryz.prog.cellsOf 4 ∧ Zca Tryz.prog (R4 x) := ⟨(D4 x).1, dlF rfl⟩
def O26 (x : api_Memory) : List AV := [.int .i64 x.Slots, .int .i64 x.Limit, .osub 49 (List.map O49 x.Sectors), .osub 3 (List.map R3 x.Wear), .osub 4 (List.map R4 x.Bad)]
theorem Xn (x : api_Memory) : (O26 x).length = Tryz.prog.cellsOf 26 ∧ Zca Tryz.prog (O26 x) := ⟨tZ_26.symm, dlC (.flat rfl) <| dlC (.flat rfl) <| dlC (dcS ZW) <| dlC (dcS DR3) <| dlC (dcS DR4) <| dlN⟩
theorem ZiQ (x : api_Memory) : Pw (MeltC Tryz.prog) (O26 x) (R26 x) := .cons (.dat rfl) <| .cons (.dat rfl) <| .cons (mcS ZW (fun x => (D49 x).1) Zj0) <| .cons (mcS DR3 (fun x => (D3 x).1) (fun _ => mcF rfl)) <| .cons (mcS DR4 (fun x => (D4 x).1) (fun _ => mcF rfl)) <| .nil
def R105 (x : ring_spot) : List AV := [.int .i64 x.sector, .int .i64 x.slot]
theorem D105 (x : ring_spot) : (R105 x).length = Tryz.prog.cellsOf 105 ∧ (R105 x).all datB = true := ⟨tZ_105.symm, rfl⟩
instance : RowD Tryz.prog 105 R105 := ⟨D105⟩
def R149 (x : api_Flaw) : List AV := [.int .i64 x.Word, .int .i64 x.Kind]
theorem D149 (x : api_Flaw) : (R149 x).length = Tryz.prog.cellsOf 149 ∧ (R149 x).all datB = true := ⟨tZ_149.symm, rfl⟩
instance : RowD Tryz.prog 149 R149 := ⟨D149⟩
theorem at1 {a0 : AV} {a1 : AV} {a2 : AV} {a3 : AV} {v4 : Vector Int 64} : At ((a0) :: (a1) :: (a2) :: (a3) :: ((List.map C40 v4.toList) ++ ([]))) 0 1 ([a0]) := at0 (hdc (n := 0) hd0)
theorem pt2 {a0 : AV} {a1 : AV} {a2 : AV} {a3 : AV} {v4 : Vector Int 64} {b0 : AV} : Put ((a0) :: (a1) :: (a2) :: (a3) :: ((List.map C40 v4.toList) ++ ([]))) 0 ([b0]) ((b0) :: (a1) :: (a2) :: (a3) :: ((List.map C40 v4.toList) ++ ([]))) := ZkL
theorem at3 {a0 : AV} {a1 : AV} {a2 : AV} {a3 : AV} {v4 : Vector Int 64} : At ((a0) :: (a1) :: (a2) :: (a3) :: ((List.map C40 v4.toList) ++ ([]))) 1 1 ([a1]) := atc (o := 0) (at0 (hdc (n := 0) hd0))
theorem pt4 {a0 : AV} {a1 : AV} {a2 : AV} {a3 : AV} {v4 : Vector Int 64} {b1 : AV} : Put ((a0) :: (a1) :: (a2) :: (a3) :: ((List.map C40 v4.toList) ++ ([]))) 1 ([b1]) ((a0) :: (b1) :: (a2) :: (a3) :: ((List.map C40 v4.toList) ++ ([]))) := Zhh (o := 0) (ZkL)
theorem at5 {a0 : AV} {a1 : AV} {a2 : AV} {a3 : AV} {v4 : Vector Int 64} : At ((a0) :: (a1) :: (a2) :: (a3) :: ((List.map C40 v4.toList) ++ ([]))) 2 1 ([a2]) := atc (o := 1) (atc (o := 0) (at0 (hdc (n := 0) hd0)))
theorem pt6 {a0 : AV} {a1 : AV} {a2 : AV} {a3 : AV} {v4 : Vector Int 64} {b2 : AV} : Put ((a0) :: (a1) :: (a2) :: (a3) :: ((List.map C40 v4.toList) ++ ([]))) 2 ([b2]) ((a0) :: (a1) :: (b2) :: (a3) :: ((List.map C40 v4.toList) ++ ([]))) := Zhh (o := 1) (Zhh (o := 0) (ZkL))
theorem at7 {a0 : AV} {a1 : AV} {a2 : AV} {a3 : AV} {v4 : Vector Int 64} : At ((a0) :: (a1) :: (a2) :: (a3) :: ((List.map C40 v4.toList) ++ ([]))) 3 1 ([a3]) := atc (o := 2) (atc (o := 1) (atc (o := 0) (at0 (hdc (n := 0) hd0))))
theorem pt8 {a0 : AV} {a1 : AV} {a2 : AV} {a3 : AV} {v4 : Vector Int 64} {b3 : AV} : Put ((a0) :: (a1) :: (a2) :: (a3) :: ((List.map C40 v4.toList) ++ ([]))) 3 ([b3]) ((a0) :: (a1) :: (a2) :: (b3) :: ((List.map C40 v4.toList) ++ ([]))) := Zhh (o := 2) (Zhh (o := 1) (Zhh (o := 0) (ZkL)))
theorem at9 {a0 : AV} {a1 : AV} {a2 : AV} {a3 : AV} {v4 : Vector Int 64} : At ((a0) :: (a1) :: (a2) :: (a3) :: ((List.map C40 v4.toList) ++ ([]))) 4 64 ((List.map C40 v4.toList)) := atc (o := 3) (atc (o := 2) (atc (o := 1) (atc (o := 0) (at0 (hdw arL)))))
theorem ZlX {a0 : AV} {a1 : AV} {a2 : AV} {a3 : AV} {v4 : Vector Int 64} {w4 : Vector Int 64} : Put ((a0) :: (a1) :: (a2) :: (a3) :: ((List.map C40 v4.toList) ++ ([]))) 4 ((List.map C40 w4.toList)) ((a0) :: (a1) :: (a2) :: (a3) :: ((List.map C40 w4.toList) ++ ([]))) := Zhh (o := 3) (Zhh (o := 2) (Zhh (o := 1) (Zhh (o := 0) (ZlY (Eq.trans arL (Eq.symm arL))))))
theorem ZcN {a0 : AV} {a1 : AV} {a2 : AV} {a3 : AV} {v4 : Vector Int 64} : ((a0) :: (a1) :: (a2) :: (a3) :: ((List.map C40 v4.toList) ++ ([]))).length = 68 := lnC (n := 67) (lnC (n := 66) (lnC (n := 65) (lnC (n := 64) (lnA (m := 64) (n := 0) arL (lnN)))))
theorem ZeS {x0 : Int} {x1 : Int} {x2 : Int} {x3 : Int} {v4 : Vector Int 64} : ((.int .i64 x0) :: (.int .i64 x1) :: (.int .i64 x2) :: (.int .i64 x3) :: ((List.map C40 v4.toList) ++ ([]))).all datB = true := alC rfl (alC rfl (alC rfl (alC rfl (alA (arD fun _ => rfl) (alN)))))
def R65 (x : api_Kept) : List AV := (.int .i64 x.Memory) :: (.int .i64 x.Sector) :: (.int .i64 x.Sequence) :: (.int .i64 x.Slot) :: ((List.map C40 x.Frame.toList) ++ ([]))
theorem Zlb {x0 : Int} {x1 : Int} {x2 : Int} {x3 : Int} {v4 : Vector Int 64} : ((.int .i64 x0) :: (.int .i64 x1) :: (.int .i64 x2) :: (.int .i64 x3) :: ((List.map C40 v4.toList) ++ ([]))).all c1B = true := alC rfl (alC rfl (alC rfl (alC rfl (alA (arC fun _ => rfl) (alN)))))
theorem E65 (x : api_Kept) : (R65 x).all c1B = true := Zlb
theorem D65 (x : api_Kept) : (R65 x).length = Tryz.prog.cellsOf 65 ∧ (R65 x).all datB = true := ⟨Eq.trans (b := 68) ZcN tZ_65.symm, ZeS⟩
instance : RowD Tryz.prog 65 R65 := ⟨D65⟩
def FK3 (x : Int) : AV := .int .i64 x
theorem Zk7 : KeyOK Tryz.prog 3 FK3 kqI := ZkE (fun _ => rfl) tI3
def ZeI (x : api_Kept) : AV := .agg ((.int .i64 x.Memory) :: (.int .i64 x.Sector) :: (.int .i64 x.Sequence) :: (.int .i64 x.Slot) :: ((List.map C40 x.Frame.toList) ++ ([])))
theorem ZlW {x0 : Int} {x1 : Int} {x2 : Int} {x3 : Int} {v4 : Vector Int 64} : NS ((.int .i64 x0) :: (.int .i64 x1) :: (.int .i64 x2) :: (.int .i64 x3) :: ((List.map C40 v4.toList) ++ ([]))) := nsC rfl (nsC rfl (nsC rfl (nsC rfl (nsA (nsM fun _ => rfl) (nsR rfl)))))
def R42 (x : Vector Int 64) : List AV := (List.map C40 x.toList)
theorem E42 (x : Vector Int 64) : (R42 x).all c1B = true := (arC fun _ => rfl)
theorem D42 (x : Vector Int 64) : (R42 x).length = Tryz.prog.cellsOf 42 ∧ (R42 x).all datB = true := ⟨Eq.trans (b := 64) arL tZ_42.symm, (arD fun _ => rfl)⟩
instance : RowD Tryz.prog 42 R42 := ⟨D42⟩
theorem Zls : Zlg Tryz.prog 42 ((List.replicate 64 ([.i .u16])).flatten) := ⟨by kernel_rfl, by kernel_rfl, by kernel_rfl⟩
theorem ZZ {n : Int} {low : Int} {high : Int} {r : Bool} (h : Z6 n low high = some r) :
 CSpec Tryz.prog gl0 54 [.int .i64 n, .int .i64 low, .int .i64 high] (.bool r) := by
 unfold Z6 at h
 replace h := Qd h
 refine So Tryz.func54 Y fun w0 A=>Tr<|Ra Y<|Za<|Tr<|Rm Y<|Rm Y<|R2 Zha Y<|Rm Y<|Rq Y (.guarded ((decide (low ≤ n)) == true) Y Y Y Y fun h => Zj<|ov Y)<|Rq Y (.guarded ((decide (low ≤ n)) == true) Y Y Y Y fun h => Zj<|ov Y)<|Rq Y (.guarded ((decide (low ≤ n)) == true) Y Y Y Y fun h => ZhD (ow Y h)<|ow Y h)<|Rq Y (ZaX (ov Y) fun hp=>ow Y<|gT hp)<|Ra Y<|Za<|?_
 obtain rfl := rt h
 exact Zs (ZQ Y (.one<|rb Y))
theorem Zy {slots : Int} {r : Int} (h : QO slots = some r) :
 CSpec Tryz.prog gl0 56 [.int .i64 slots] (.int .i64 r) := by
 unfold QO at h
 replace h := Qd h
 refine So Tryz.func56 Y fun w0 A=>Tr<|Ra Y<|Za<|Tr<|Rm Y<|R2 Zft Y<|R2 ZY Y<|Ra Y<|Za<|?_
 obtain rfl := rt h
 exact Zs (ZQ Y (.one<|rb Y))
theorem Zhq {x : Int} {y : Int} {r : Int × Int} (h : Zcw x y = some r) :
 CSpec Tryz.prog gl0 130 [.int .u64 x, .int .u64 y] (.tuple [.int .u64 r.1, .int .u64 r.2]) := by
 unfold Zcw at h
 replace h := Qd h
 refine So Tryz.func130 Y fun w0 A=>Tr<|Ra Y<|Ra Y<|Za<|K2 0 1 Y<|Tr<|Rm Y<|R2 Zan Y<|Ra Y<|Za<|K3 0 1 6 Y<|Tr<|Rm Y<|bE h fun q h_q h=>Rq Y (Zb8 (ov Y) (ov Y) h_q)<|Ra Y<|Za<|K4 0 1 6 7 Y<|Tr<|Rm Y<|R2 Zan Y<|Ra Y<|Za<|K5 0 1 6 7 8 Y<|Tr<|Rm Y<|bE h fun q2 h_q2 h=>Rq Y (Zb8 (ov Y) (ov Y) h_q2)<|Ra Y<|Za<|K6 0 1 6 7 8 9 Y<|Tr<|Rm Y<|Rm Y<|R2 Zft Y<|Ra Y<|Za<|K7 0 1 6 7 8 9 10 Y<|Tr<|Rm Y<|Rm Y<|R2 Zft Y<|Rm Y<|bE h fun q3 h_q3 h=>Rq Y (Zb8 (ov Y) (ov Y) h_q3)<|R2 ZY Y<|Ra Y<|Za<|K6 0 1 6 7 9 11 Y<|Tr<|Rm Y<|R2 Zan Y<|Ra Y<|Za<|K7 0 1 6 7 9 11 12 Y<|Tr<|Rm Y<|bE h fun q4 h_q4 h=>Rq Y (Zb8 (ov Y) (ov Y) h_q4)<|Ra Y<|Za<|K7 0 1 6 7 9 12 13 Y<|Tr<|Rm Y<|Rm Y<|Rm Y<|R2 Zft Y<|R2 ZY Y<|Ra Y<|Za<|K6 0 1 7 9 12 13 Y<|Tr<|Rm Y<|Rm Y<|R2 Zft Y<|Rm Y<|R2 ZY Y<|Rm Y<|bE h fun q5 h_q5 h=>Rq Y (Zb8 (ov Y) (ov Y) h_q5)<|R2 ZY Y<|Ra Y<|Za<|K3 0 1 4 Y<|Tr<|Rm Y<|Rm Y<|R2 Zft Y<|Ra Y<|Za<|?_
 obtain rfl := rt h
 exact Zs (ZQ Y (.two (rb Y)<|rb Y))
theorem Zh9 {x : Int} {y : Int} {r : Int × Int} (h : Zcy x y = some r) :
 CSpec Tryz.prog gl0 100 [.int .u64 x, .int .u64 y] (.tuple [.int .u64 r.1, .int .u64 r.2]) := by
 unfold Zcy at h
 replace h := Qd h
 refine So Tryz.func100 Y fun w0 A=>Tr<|Ra Y<|Ra Y<|Za<|Zl<|ZkC<|Zm<|K2 0 1 Y<|Tr<|Rm Y<|Rm Y<|bE h fun y2 h_y2 h=>Rq Y (Zq (Zhq h_y2)<|.cons (ov Y) (.b Y)<|.cons (ov Y) (.b Y) .nil)<|Rm Y<|Rq Y (Zr (ov Y) Y)<|Rq Y (Zr (ov Y) Y)<|Ra Y<|Ra Y<|Za<|K2 8 9 Y<|Tr<|Rm Y<|Rm Y<|Ra Y<|Ra Y<|Za<|?_
 obtain rfl := rt h
 exact Zs (ZQ Y (.two (rb Y)<|rb Y))
theorem Zc {x : List Int} {count : Int} {r : (List Int)} (h : Z3 x count = some r) :
 GSpec Tryz.prog gl0 55 [.sl 5 (List.map R5 x), .int .i64 count] [] (.own 0 r.length) [some ⟨5, List.map R5 r⟩] := by
 unfold Z3 at h
 replace h := Qd h
 refine Qt (by kernel_rfl) Tryz.func55 Y Y<|?_
 intro w0 A W φ0
 refine Tr<|Ra Y<|Za<|Zl<|K2 0 1 Y<|Tr<|Rm Y<|R2 Z1 Y<|Za<|K3 0 1 10 Y<|If h Y (fun h=>?_) fun h=>?_
 ·
  exact (ZiF h).elim
 ·
  refine Zm<|K2 0 1 Y<|Tr<|Rm Y<|Rl tZ_5 Qg Y<|Rq Y (Qv (ov Y) tI3 ZjX Y)<|Rm Y<|Rq Y (Qv (ov Y) tI3 ZjX Y)<|bE h fun y h_y h=>Rq Y (Zq (Zh9 h_y)<|.cons (ov Y) (.b Y)<|.cons (ov Y) (.b Y) .nil)<|Rm Y<|Rq Y (Zr (ov Y) Y)<|Rq Y (Zr (ov Y) Y)<|Ra Y<|Ra Y<|Za<|Zl<|K3 0 5 6 Y<|Tr<|Rm Y<|R2 Zcu Y<|Rm Y<|Rq Y (.guarded ((decide (0 < y.1)) == false) Y Y Y Y fun h => Zj<|ov Y)<|Rq Y (.guarded ((decide (0 < y.1)) == false) Y Y Y Y fun h => Zcu (ow Y h)<|ov Y)<|Rq Y (ZdS (ov Y) fun hp=>ow Y<|gF hp)<|Za<|K3 0 6 26 Y<|If h Y (fun h=>?_) fun h=>?_
  ·
   exact (ZiF h).elim
  ·
   refine Zm<|K2 0 6 Y<|Tr<|Rm Y<|Rq Y (Qv (ov Y) ZjX tI3 Y)<|bE h fun l h_l h=>Rx Y (Z2 [none] (r := 0) (f := R5) (z0 := 0) Y (ov Y) (ov Y) Qg Y tZ5 Y Y h_l)<|Ra Y<|Za<|K2 0 7 Y<|Tr<|Rm Y<|Rm Y<|Rx Y (ZkD (f := R5) (g := C5) (xs := l) (ys := x) (ov Y) (QX (ov Y) tZ_5) Y Y (fun _=>Y) (fun _=>Y) (fun _=>Y) Qg)<|Ra Y<|Za<|I1 (fun newslice=>⟨[(7, .own 0 newslice.length)], [some ⟨5, List.map R5 newslice⟩]⟩) h (fun h=>?_) fun newslice h=>?_
   ·
    refine Zk<|?_
    obtain ⟨r1, hl1, ho1⟩ := QY h
    refine L2 (fun newslice2 n=>⟨[(7, .own 0 newslice2.length), (8, .int .i64 n)], [some ⟨5, List.map R5 newslice2⟩]⟩) hl1 (ES [some 0]<|sr 7 Y (Zfd (Eq.symm<|(ZfD ..).trans Y) Y)<|sd 8 Y Y sn) fun n1 newslice2 n h=>?_
    unfold ZV at h
    refine Zl<|Tr<|Rm Y<|Rm Y<|Rq Y (Zdt (ov Y) Y Y Qg)<|R2 Z1 Y<|Za<|K3 7 8 37 Y<|If h Y (fun h=>?_) fun h=>?_
    ·
     exact Zm<|Zk<|K2 7 8 Y<|Qj (cw := md0) (by kernel_rfl)<|D1 1 Zj Y<|D1 2 Zj Y<|bE h fun u h_u h=>Dq 3 Y (ZkU (ov Y) Y Y Qg (oi<|ov Y) on h_u)<|D1 4 Zj Y<|D1 5 Zj Y<|bE h fun u2 h_u2 h=>Dq 6 Y (ZkU (ov Y) Y Y Qg on (oi<|ov Y) h_u2)<|ZP 0 _ Y (by kernel_rfl) Y Y (fun hp'=>Zj<|ov Y)<|Do 7 Y (ZkB (g := C5) (ov Y) (ov Y) Y Y (fun _=>Y) (fun _=>Y) (fun _=>Y) Qg (ZhP h_u)<|ZhP h_u2)<|D2 8 ZY Y<|D1 9 Qm Y<|Dd<|⟨_, h, ES [some 0]<|sr 7 Y (Zfd (Eq.symm<|(ZgI (ZhP h_u) (ZhP h_u2)).trans Y) Y)<|sd 8 Y Y sn⟩
    ·
     refine ZN<|?_
     replace h := lx h ▸ ho1
     exact ⟨_, h, ES [some 0]⟩
   ·
    refine Tr<|Rm Y<|Ra Y<|Za<|?_
    obtain rfl := rt h
    exact Zs<|JI [some 0] Y (.cons (.tmp Y) .nil) (.cons Y (roM D5) .nil) Y Y<|.own _ Y
theorem Zew {sectors : Int} {slots : Int} {limit : Int} {r : api_Memory × Int} (h : Qa sectors slots limit = some r) :
 GSpec Tryz.prog gl0 10 [.int .i64 sectors, .int .i64 slots, .int .i64 limit] [] (.tuple [.agg [.int .i64 r.1.Slots, .int .i64 r.1.Limit, .own 0 r.1.Sectors.length, .own 1 r.1.Wear.length, .own 2 r.1.Bad.length], .int .i64 r.2]) [some ⟨49, List.map O49 r.1.Sectors⟩, some ⟨3, List.map R3 r.1.Wear⟩, some ⟨4, List.map R4 r.1.Bad⟩] := by
 unfold Qa at h
 replace h := Qd h
 refine Qt (by kernel_rfl) Tryz.func10 Y Y<|?_
 intro w0 A W φ0
 refine Tr<|Rx Y (ZL (row := [_, _, _, _, _]) 0 Y Q8 Y tZ_26)<|Ra Y<|Za<|Zl<|K4 0 1 2 6 Y<|Tr<|Rm Y<|bE h fun y h_y h=>Rq Y (Zq (ZZ h_y)<|.cons (ov Y) (.b Y)<|.cons (ov Y) (.b Y)<|.cons (ov Y) (.b Y) .nil)<|R1 XU Y<|Rm Y<|Rq Y (.guarded ((!y) == false) Y Y Y Y fun h => Zj<|ov Y)<|bE h fun y2 h_y2 h=>Rq Y (.guarded ((!y) == false) Y Y Y Y fun h => Zq (ZZ<|gdT h_y2 h)<|.cons (ow Y h) (.b Y)<|.cons (ov Y) (.b Y)<|.cons (ov Y) (.b Y) .nil)<|Rq Y (.guarded ((!y) == false) Y Y Y Y fun h => XU<|ow Y h)<|Rq Y (ZdS (ov Y) fun hp=>ow Y<|gF hp)<|Rm Y<|Rq Y (.guarded (((!y) || (!y2)) == false) Y Y Y Y fun h => Zj<|ov Y)<|bE h fun y3 h_y3 h=>Rq Y (.guarded (((!y) || (!y2)) == false) Y Y Y Y fun h => Zq (ZZ<|gdT h_y3 h)<|.cons (ow Y h) (.b Y)<|.cons (ov Y) (.b Y)<|.cons (ov Y) (.b Y) .nil)<|Rq Y (.guarded (((!y) || (!y2)) == false) Y Y Y Y fun h => XU<|ow Y h)<|Rq Y (ZdS (ov Y) fun hp=>ow Y<|gF hp)<|Za<|K5 0 1 2 6 21 Y<|If h Y (fun h=>?_) fun h=>?_
 ·
  refine K1 6 Y<|Tr<|Rq Y (Z8 (ys := [_, _, _, _, _]) JR JS Q8 .nil Y)<|Rx Y (Zh (ov Y) (ov Y) (Zu Qu Y) Y Y Y (Nat.le_of_ble_eq_true Y) (Zb Y) Y)<|Ra Y<|Za<|?_
  obtain rfl := rt h
  exact Zs<|JI [none, none, none] Y (.cons (.agg Y Y Y Y Qu Y Y)<|.cons (.tmp Y) .nil) (.row 49<|.row 3<|.row 4 .nil) Y Y<|Xo<|rlc (Zcc<|rlc (.dat Y)<|rlc (.dat Y)<|rlc (.row Y)<|rlc (.row Y)<|rlc (.row Y) rln)<|rlc (.dat Y) rln
 ·
  refine Zm<|I2 (fun Wear Bad=>⟨[(0, .int .i64 sectors), (1, .int .i64 slots), (6, .ptr 0 1 0 0), (8, .ptr 1 1 0 0)], [some ⟨26, [[.int .i64 0, .int .i64 0, .nils, .nils, .nils]]⟩, some ⟨26, [[.int .i64 slots, .int .i64 limit, .nils, .own 2 Wear.length, .own 3 Bad.length]]⟩, some ⟨3, List.map R3 Wear⟩, some ⟨4, List.map R4 Bad⟩]⟩) h (fun h=>?_) fun Wear Bad h=>?_
  ·
   refine K4 0 1 2 6 Y<|Qj (cw := md0) (by kernel_rfl)<|ZP 0 _ Y (by kernel_rfl) Y Y (fun hp'=>Zj<|ov Y)<|ZP 1 _ Y (by kernel_rfl) Y Y (fun hp'=>Zj<|ov Y)<|ZP 2 _ Y (by kernel_rfl) Y Y (fun hp'=>Zj<|ov Y)<|ZP 4 _ Y (by kernel_rfl) Y Y (fun hp'=>Zj<|ov Y)<|bE h fun l h_l h=>bE h fun l2 h_l2 h=>Ze8 [3, 5, 7] (by kernel_rfl)<|.w Y Y Y (fun _=>Ext.app) (fun h=>by cases h) (Z2 [none] (r := 1) (f := R3) (z0 := 0) Y (ov Y) (ov Y) QH Y tZ3 Y Y h_l) ?_<|.w Y Y Y (fun _=>Ext.app) (fun h=>by cases h) (Z2 [none] (r := 1) (f := R4) (z0 := false) Y (ov Y) (ov Y) Zb0 Y tZ4 Y Y h_l2) ?_<|.w Y Y Y (fun _=>Ext.app) (fun h=>by cases h) (ZL (row := [_, _, _, _, _]) 1 Y Q8 Y tZ_26) ?_ .nil
   ·
    refine Zd8 5 7 Y Y (by kernel_rfl) Y Y Y Y (fun _=>Ext.app) (fun _=>Ext.app) (fun h=>by cases h) (fun h=>by cases h) (Z2 [none] (r := 2) (f := R4) (z0 := false) Y (ov Y) (ov Y) Zb0 Y tZ4 Y Y h_l2) (ZL (row := [_, _, _, _, _]) 2 Y Q8 Y tZ_26) ?_ ?_
    ·
     exact ZP 6 _ Y (by kernel_rfl) Y Y (fun hp'=>Z8 (ys := [_, _, _, _, _]) JR JS Q8 (.cons (cvs (ov Y)<|Zd Y)<|.cons (cvs (ov Y)<|Zd Y)<|.cons (cvs (ov Y)<|Zd Y)<|.cons (cvs (ov Y)<|Zd Y) .nil) Y)<|QA 7 _ _ Y (by kernel_rfl) Y Y (fun _=>Ext.app) (fun h=>by cases h) (ZL (row := [_, _, _, _, _]) 3 Y Q8 Y tZ_26)<|Do 8 Y (Zh (ov Y) (ov Y) (Zu Qu Y) Y Y Y (Nat.le_of_ble_eq_true Y) (Zb Y) Y)<|Dd<|⟨_, h, ES [some 0, some 3, some 1, some 2]⟩
    ·
     exact QA 5 _ _ Y (by kernel_rfl) Y Y (fun _=>Ext.app) (fun h=>by cases h) (Z2 [none] (r := 3) (f := R4) (z0 := false) Y (ov Y) (ov Y) Zb0 Y tZ4 Y Y h_l2)<|Dq 6 Y (Z8 (ys := [_, _, _, _, _]) JR JS Q8 (.cons (cvs (ov Y)<|Zd Y)<|.cons (cvs (ov Y)<|Zd Y)<|.cons (cvs (ov Y)<|Zd Y)<|.cons (cvs (ov Y)<|Zd Y) .nil) Y)<|Do 8 Y (Zh (ov Y) (ov Y) (Zu Qu Y) Y Y Y (Nat.le_of_ble_eq_true Y) (Zb Y) Y)<|Dd<|⟨_, h, ES [some 0, some 2, some 1, some 3]⟩
   ·
    refine Zd8 3 7 Y Y (by kernel_rfl) Y Y Y Y (fun _=>Ext.app) (fun _=>Ext.app) (fun h=>by cases h) (fun h=>by cases h) (Z2 [none] (r := 2) (f := R3) (z0 := 0) Y (ov Y) (ov Y) QH Y tZ3 Y Y h_l) (ZL (row := [_, _, _, _, _]) 2 Y Q8 Y tZ_26) ?_ ?_
    ·
     exact ZP 6 _ Y (by kernel_rfl) Y Y (fun hp'=>Z8 (ys := [_, _, _, _, _]) JR JS Q8 (.cons (cvs (ov Y)<|Zd Y)<|.cons (cvs (ov Y)<|Zd Y)<|.cons (cvs (ov Y)<|Zd Y)<|.cons (cvs (ov Y)<|Zd Y) .nil) Y)<|QA 7 _ _ Y (by kernel_rfl) Y Y (fun _=>Ext.app) (fun h=>by cases h) (ZL (row := [_, _, _, _, _]) 3 Y Q8 Y tZ_26)<|Do 8 Y (Zh (ov Y) (ov Y) (Zu Qu Y) Y Y Y (Nat.le_of_ble_eq_true Y) (Zb Y) Y)<|Dd<|⟨_, h, ES [some 0, some 3, some 2, some 1]⟩
    ·
     exact QA 3 _ _ Y (by kernel_rfl) Y Y (fun _=>Ext.app) (fun h=>by cases h) (Z2 [none] (r := 3) (f := R3) (z0 := 0) Y (ov Y) (ov Y) QH Y tZ3 Y Y h_l)<|Dq 6 Y (Z8 (ys := [_, _, _, _, _]) JR JS Q8 (.cons (cvs (ov Y)<|Zd Y)<|.cons (cvs (ov Y)<|Zd Y)<|.cons (cvs (ov Y)<|Zd Y)<|.cons (cvs (ov Y)<|Zd Y) .nil) Y)<|Do 8 Y (Zh (ov Y) (ov Y) (Zu Qu Y) Y Y Y (Nat.le_of_ble_eq_true Y) (Zb Y) Y)<|Dd<|⟨_, h, ES [some 0, some 2, some 3, some 1]⟩
   ·
    refine Zd8 3 5 Y Y (by kernel_rfl) Y Y Y Y (fun _=>Ext.app) (fun _=>Ext.app) (fun h=>by cases h) (fun h=>by cases h) (Z2 [none] (r := 2) (f := R3) (z0 := 0) Y (ov Y) (ov Y) QH Y tZ3 Y Y h_l) (Z2 [none] (r := 2) (f := R4) (z0 := false) Y (ov Y) (ov Y) Zb0 Y tZ4 Y Y h_l2) ?_ ?_
    ·
     exact QA 5 _ _ Y (by kernel_rfl) Y Y (fun _=>Ext.app) (fun h=>by cases h) (Z2 [none] (r := 3) (f := R4) (z0 := false) Y (ov Y) (ov Y) Zb0 Y tZ4 Y Y h_l2)<|Dq 6 Y (Z8 (ys := [_, _, _, _, _]) JR JS Q8 (.cons (cvs (ov Y)<|Zd Y)<|.cons (cvs (ov Y)<|Zd Y)<|.cons (cvs (ov Y)<|Zd Y)<|.cons (cvs (ov Y)<|Zd Y) .nil) Y)<|Do 8 Y (Zh (ov Y) (ov Y) (Zu Qu Y) Y Y Y (Nat.le_of_ble_eq_true Y) (Zb Y) Y)<|Dd<|⟨_, h, ES [some 0, some 1, some 2, some 3]⟩
    ·
     exact QA 3 _ _ Y (by kernel_rfl) Y Y (fun _=>Ext.app) (fun h=>by cases h) (Z2 [none] (r := 3) (f := R3) (z0 := 0) Y (ov Y) (ov Y) QH Y tZ3 Y Y h_l)<|Dq 6 Y (Z8 (ys := [_, _, _, _, _]) JR JS Q8 (.cons (cvs (ov Y)<|Zd Y)<|.cons (cvs (ov Y)<|Zd Y)<|.cons (cvs (ov Y)<|Zd Y)<|.cons (cvs (ov Y)<|Zd Y) .nil) Y)<|Do 8 Y (Zh (ov Y) (ov Y) (Zu Qu Y) Y Y Y (Nat.le_of_ble_eq_true Y) (Zb Y) Y)<|Dd<|⟨_, h, ES [some 0, some 1, some 3, some 2]⟩
  ·
   refine I1 (fun Sectors=>⟨[(6, .ptr 0 1 0 0), (8, .ptr 1 1 0 0)], [some ⟨26, [[.int .i64 0, .int .i64 0, .nils, .nils, .nils]]⟩, some ⟨26, [[.int .i64 slots, .int .i64 limit, .own 2 Sectors.length, .own 3 Wear.length, .own 4 Bad.length]]⟩, some ⟨49, List.map O49 Sectors⟩, some ⟨3, List.map R3 Wear⟩, some ⟨4, List.map R4 Bad⟩]⟩) h (fun h=>?_) fun Sectors h=>?_
   ·
    refine Tr<|Rm Y<|Rm Y<|Za<|Zk<|?_
    obtain ⟨r1, hl1, ho1⟩ := QY h
    refine L2 (fun Sectors2 i=>⟨[(1, .int .i64 slots), (6, .ptr 0 1 0 0), (8, .ptr 1 1 0 0), (30, .int .i64 sectors), (31, .int .i64 i)], [some ⟨26, [[.int .i64 0, .int .i64 0, .nils, .nils, .nils]]⟩, some ⟨26, [[.int .i64 slots, .int .i64 limit, .own 2 Sectors2.length, .own 3 Wear.length, .own 4 Bad.length]]⟩, some ⟨49, List.map O49 Sectors2⟩, some ⟨3, List.map R3 Wear⟩, some ⟨4, List.map R4 Bad⟩]⟩) hl1 (ES [some 0, some 1, none, some 2, some 3]) fun n1 Sectors2 i h=>?_
    unfold Q1 at h
    refine Tr<|R2 Z1 Y<|Za<|Zl<|If h Y (fun h=>?_) fun h=>?_
    ·
     refine Zm<|I1 (fun Sectors3=>⟨[(1, .int .i64 slots), (6, .ptr 0 1 0 0), (8, .ptr 1 1 0 0), (30, .int .i64 sectors), (31, .int .i64 i)], [some ⟨26, [[.int .i64 0, .int .i64 0, .nils, .nils, .nils]]⟩, some ⟨26, [[.int .i64 slots, .int .i64 limit, .own 2 Sectors3.length, .own 3 Wear.length, .own 4 Bad.length]]⟩, some ⟨49, List.map O49 Sectors3⟩, some ⟨3, List.map R3 Wear⟩, some ⟨4, List.map R4 Bad⟩]⟩) h (fun h=>?_) fun Sectors3 h=>?_
     ·
      refine Zk<|K5 1 6 8 30 31 Y<|Qj (cw := ⟨true, false, [], [], []⟩) (by kernel_rfl)<|ZP 3 _ Y (by kernel_rfl) Y Y (fun hp'=>Zj<|ov Y)<|bE h fun y4 h_y4 h=>Ze8 [0, 2, 4] (by kernel_rfl)<|.q Y Y Y (Zg (ov Y) Y Y Zp) ?_<|.w Y Y Y (fun h=>by cases h) (fun h=>by cases h) (Z7<|Q0 Qg (.cons (cvs (ov Y)<|Zd Y) Y (.cons (.b Y) .nil) .nil) Y Y) ?_<|.w Y Y Y (fun h=>by cases h) (fun h=>by cases h) (Z7<|Zq (Zy h_y4)<|.cons (ov Y) (.b Y) .nil) ?_ .nil
      ·
       refine Ze8 [1, 2, 4] (by kernel_rfl)<|.q Y Y Y (Zo (ov Y) Y Y Y ZD Y) ?_<|.w Y Y Y (fun h=>by cases h) (fun h=>by cases h) (Z7<|Q0 Qg (.cons (cvs (ov Y)<|Zd Y) Y (.cons (.b Y) .nil) .nil) Y Y) ?_<|.w Y Y Y (fun h=>by cases h) (fun h=>by cases h) (Z7<|Zq (Zy h_y4)<|.cons (ov Y) (.b Y) .nil) ?_ .nil
       ·
        refine Zd8 2 4 Y Y (by kernel_rfl) Y Y Y Y (fun h=>by cases h) (fun h=>by cases h) (fun h=>by cases h) (fun h=>by cases h) (Z7<|Q0 Qg (.cons (cvs (ov Y)<|Zd Y) Y (.cons (.b Y) .nil) .nil) Y Y) (Z7<|Zq (Zy h_y4)<|.cons (ov Y) (.b Y) .nil) ?_ ?_
        ·
         exact Do 4 Y (Z7<|Zq (Zy h_y4)<|.cons (ov Y) (.b Y) .nil)<|bE h fun y5 h_y5 h=>Do 5 Y (Zv [] (Zc h_y5) (.cons (ov Y) (.dat Y)<|.cons (ov Y) (.dat Y) .nil) .nil Y (.keep Y Y<|.keep Y Y<|.keep Y Y<|.keep Y Y<|.keep Y Y<|.lent 0 (.inr ⟨Nat.le_of_ble_eq_true Y, Y⟩) Y (roM D5) .nil) Y Y<|.own _<|.inr ⟨Nat.le_of_ble_eq_true Y, Y⟩)<|Do 6 Y (ZE (r := 6) Y Zz (.cons (cvs (ov Y)<|Zd Y) Y .nil) Y Y)<|bE h fun l3 h_l3 h=>Do 7 Y (Zn (f := O49) (ov Y) (Zw (o := ⟨49, [[.own 5 y5.length]]⟩) (ov Y) Y Y tZ_49) Zz Y Y (Zb Y) Y h_l3)<|Dq 8 Y (Zg (ov Y) Y Y Zp)<|Do 9 Y (Zh (ov Y) (ov Y) (Zf ZD) Y Y Y (Nat.le_of_ble_eq_true Y) (Zb Y) Y)<|Zx (by kernel_rfl) (Ent.trans (Ent.absorbH (r := 2) (j := 0) (q := 5) Y (Ze h_l3) Y Y (List.length_map ..) Y)<|Ent.closeS (r := 2) Y (Ze h_l3) Y)<|⟨_, h, ES [some 0, some 1, some 2, some 3, some 4] (hhp := .cons Y (ro1 (by exact tZ_26.symm)<|rld Y)<|.cons Y (ro1 (by exact tZ_26.symm)<|rlc (.dat Y)<|rlc (.dat Y)<|rlc (.own _ Y)<|rlc (.own _ Y)<|rlc (.own _ Y) rln)<|.cons Y (roO ZW)<|.cons Y (roM D3)<|.cons Y (roM D4) .nil)⟩
        ·
         exact QA 2 (.sl 5<|List.map R5 ([255] : List Int)) _ Y (by kernel_rfl) Y Y (fun h=>by cases h) (fun h=>by cases h) (Z7<|Q0 Qg (.cons (cvs (ov Y)<|Zd Y) Y (.cons (.b Y) .nil) .nil) Y Y)<|bE h fun y5 h_y5 h=>Do 5 Y (Zv [] (Zc h_y5) (.cons (ov Y) (.dat Y)<|.cons (ov Y) (.dat Y) .nil) .nil Y (.keep Y Y<|.keep Y Y<|.keep Y Y<|.keep Y Y<|.keep Y Y<|.lent 0 (.inr ⟨Nat.le_of_ble_eq_true Y, Y⟩) Y (roM D5) .nil) Y Y<|.own _<|.inr ⟨Nat.le_of_ble_eq_true Y, Y⟩)<|Do 6 Y (ZE (r := 6) Y Zz (.cons (cvs (ov Y)<|Zd Y) Y .nil) Y Y)<|bE h fun l3 h_l3 h=>Do 7 Y (Zn (f := O49) (ov Y) (Zw (o := ⟨49, [[.own 5 y5.length]]⟩) (ov Y) Y Y tZ_49) Zz Y Y (Zb Y) Y h_l3)<|Dq 8 Y (Zg (ov Y) Y Y Zp)<|Do 9 Y (Zh (ov Y) (ov Y) (Zf ZD) Y Y Y (Nat.le_of_ble_eq_true Y) (Zb Y) Y)<|Zx (by kernel_rfl) (Ent.trans (Ent.absorbH (r := 2) (j := 0) (q := 5) Y (Ze h_l3) Y Y (List.length_map ..) Y)<|Ent.closeS (r := 2) Y (Ze h_l3) Y)<|⟨_, h, ES [some 0, some 1, some 2, some 3, some 4] (hhp := .cons Y (ro1 (by exact tZ_26.symm)<|rld Y)<|.cons Y (ro1 (by exact tZ_26.symm)<|rlc (.dat Y)<|rlc (.dat Y)<|rlc (.own _ Y)<|rlc (.own _ Y)<|rlc (.own _ Y) rln)<|.cons Y (roO ZW)<|.cons Y (roM D3)<|.cons Y (roM D4) .nil)⟩
       ·
        refine Dw 1 4 Y (Zo (ov Y) Y Y Y ZD Y) (Z7<|Zq (Zy h_y4)<|.cons (ov Y) (.b Y) .nil) ?_ ?_
        ·
         exact Do 4 Y (Z7<|Zq (Zy h_y4)<|.cons (ov Y) (.b Y) .nil)<|bE h fun y5 h_y5 h=>Do 5 Y (Zv [] (Zc h_y5) (.cons (ov Y) (.dat Y)<|.cons (ov Y) (.dat Y) .nil) .nil Y (.keep Y Y<|.keep Y Y<|.keep Y Y<|.keep Y Y<|.keep Y Y<|.lent 0 (.inr ⟨Nat.le_of_ble_eq_true Y, Y⟩) Y (roM D5) .nil) Y Y<|.own _<|.inr ⟨Nat.le_of_ble_eq_true Y, Y⟩)<|Do 6 Y (ZE (r := 6) Y Zz (.cons (cvs (ov Y)<|Zd Y) Y .nil) Y Y)<|bE h fun l3 h_l3 h=>Do 7 Y (Zn (f := O49) (ov Y) (Zw (o := ⟨49, [[.own 5 y5.length]]⟩) (ov Y) Y Y tZ_49) Zz Y Y (Zb Y) Y h_l3)<|Dq 8 Y (Zg (ov Y) Y Y Zp)<|Do 9 Y (Zh (ov Y) (ov Y) (Zf ZD) Y Y Y (Nat.le_of_ble_eq_true Y) (Zb Y) Y)<|Zx (by kernel_rfl) (Ent.trans (Ent.absorbH (r := 2) (j := 0) (q := 5) Y (Ze h_l3) Y Y (List.length_map ..) Y)<|Ent.closeS (r := 2) Y (Ze h_l3) Y)<|⟨_, h, ES [some 0, some 1, some 2, some 3, some 4] (hhp := .cons Y (ro1 (by exact tZ_26.symm)<|rld Y)<|.cons Y (ro1 (by exact tZ_26.symm)<|rlc (.dat Y)<|rlc (.dat Y)<|rlc (.own _ Y)<|rlc (.own _ Y)<|rlc (.own _ Y) rln)<|.cons Y (roO ZW)<|.cons Y (roM D3)<|.cons Y (roM D4) .nil)⟩
        ·
         refine bE h fun y5 h_y5 h=>Dw 1 5 Y (Zo (ov Y) Y Y Y ZD Y) (Zv [] (Zc h_y5) (.cons (ov Y) (.dat Y)<|.cons (ov Y) (.dat Y) .nil) .nil Y (.keep Y Y<|.keep Y Y<|.keep Y Y<|.keep Y Y<|.keep Y Y<|.lent 0 (.inr ⟨Nat.le_of_ble_eq_true Y, Y⟩) Y (roM D5) .nil) Y Y<|.own _<|.inr ⟨Nat.le_of_ble_eq_true Y, Y⟩) ?_ ?_
         ·
          exact Do 5 Y (Zv [] (Zc h_y5) (.cons (ov Y) (.dat Y)<|.cons (ov Y) (.dat Y) .nil) .nil Y (.keep Y Y<|.keep Y Y<|.keep Y Y<|.keep Y Y<|.keep Y Y<|.lent 0 (.inr ⟨Nat.le_of_ble_eq_true Y, Y⟩) Y (roM D5) .nil) Y Y<|.own _<|.inr ⟨Nat.le_of_ble_eq_true Y, Y⟩)<|Do 6 Y (ZE (r := 6) Y Zz (.cons (cvs (ov Y)<|Zd Y) Y .nil) Y Y)<|bE h fun l3 h_l3 h=>Do 7 Y (Zn (f := O49) (ov Y) (Zw (o := ⟨49, [[.own 5 y5.length]]⟩) (ov Y) Y Y tZ_49) Zz Y Y (Zb Y) Y h_l3)<|Dq 8 Y (Zg (ov Y) Y Y Zp)<|Do 9 Y (Zh (ov Y) (ov Y) (Zf ZD) Y Y Y (Nat.le_of_ble_eq_true Y) (Zb Y) Y)<|Zx (by kernel_rfl) (Ent.trans (Ent.absorbH (r := 2) (j := 0) (q := 5) Y (Ze h_l3) Y Y (List.length_map ..) Y)<|Ent.closeS (r := 2) Y (Ze h_l3) Y)<|⟨_, h, ES [some 0, some 1, some 2, some 3, some 4] (hhp := .cons Y (ro1 (by exact tZ_26.symm)<|rld Y)<|.cons Y (ro1 (by exact tZ_26.symm)<|rlc (.dat Y)<|rlc (.dat Y)<|rlc (.own _ Y)<|rlc (.own _ Y)<|rlc (.own _ Y) rln)<|.cons Y (roO ZW)<|.cons Y (roM D3)<|.cons Y (roM D4) .nil)⟩
         ·
          refine Dw 1 6 Y (Zo (ov Y) Y Y Y ZD Y) (ZE (r := 6) Y Zz (.cons (cvs (ov Y)<|Zd Y) Y .nil) Y Y) ?_ ?_
          ·
           exact Do 6 Y (ZE (r := 6) Y Zz (.cons (cvs (ov Y)<|Zd Y) Y .nil) Y Y)<|bE h fun l3 h_l3 h=>Do 7 Y (Zn (f := O49) (ov Y) (Zw (o := ⟨49, [[.own 5 y5.length]]⟩) (ov Y) Y Y tZ_49) Zz Y Y (Zb Y) Y h_l3)<|Dq 8 Y (Zg (ov Y) Y Y Zp)<|Do 9 Y (Zh (ov Y) (ov Y) (Zf ZD) Y Y Y (Nat.le_of_ble_eq_true Y) (Zb Y) Y)<|Zx (by kernel_rfl) (Ent.trans (Ent.absorbH (r := 2) (j := 0) (q := 5) Y (Ze h_l3) Y Y (List.length_map ..) Y)<|Ent.closeS (r := 2) Y (Ze h_l3) Y)<|⟨_, h, ES [some 0, some 1, some 2, some 3, some 4] (hhp := .cons Y (ro1 (by exact tZ_26.symm)<|rld Y)<|.cons Y (ro1 (by exact tZ_26.symm)<|rlc (.dat Y)<|rlc (.dat Y)<|rlc (.own _ Y)<|rlc (.own _ Y)<|rlc (.own _ Y) rln)<|.cons Y (roO ZW)<|.cons Y (roM D3)<|.cons Y (roM D4) .nil)⟩
          ·
           exact Dq 1 Y (Zo (ov Y) Y Y Y ZD Y)<|bE h fun l3 h_l3 h=>Do 7 Y (Zn (f := O49) (ov Y) (Zw (o := ⟨49, [[.own 5 y5.length]]⟩) (ov Y) Y Y tZ_49) Zz Y Y (Zb Y) Y h_l3)<|Dq 8 Y (Zg (ov Y) Y Y Zp)<|Do 9 Y (Zh (ov Y) (ov Y) (Zf ZD) Y Y Y (Nat.le_of_ble_eq_true Y) (Zb Y) Y)<|Zx (by kernel_rfl) (Ent.trans (Ent.absorbH (r := 2) (j := 0) (q := 5) Y (Ze h_l3) Y Y (List.length_map ..) Y)<|Ent.closeS (r := 2) Y (Ze h_l3) Y)<|⟨_, h, ES [some 0, some 1, some 2, some 3, some 4] (hhp := .cons Y (ro1 (by exact tZ_26.symm)<|rld Y)<|.cons Y (ro1 (by exact tZ_26.symm)<|rlc (.dat Y)<|rlc (.dat Y)<|rlc (.own _ Y)<|rlc (.own _ Y)<|rlc (.own _ Y) rln)<|.cons Y (roO ZW)<|.cons Y (roM D3)<|.cons Y (roM D4) .nil)⟩
       ·
        refine Dw 1 2 Y (Zo (ov Y) Y Y Y ZD Y) (Z7<|Q0 Qg (.cons (cvs (ov Y)<|Zd Y) Y (.cons (.b Y) .nil) .nil) Y Y) ?_ ?_
        ·
         exact QA 2 (.sl 5<|List.map R5 ([255] : List Int)) _ Y (by kernel_rfl) Y Y (fun h=>by cases h) (fun h=>by cases h) (Z7<|Q0 Qg (.cons (cvs (ov Y)<|Zd Y) Y (.cons (.b Y) .nil) .nil) Y Y)<|bE h fun y5 h_y5 h=>Do 5 Y (Zv [] (Zc h_y5) (.cons (ov Y) (.dat Y)<|.cons (ov Y) (.dat Y) .nil) .nil Y (.keep Y Y<|.keep Y Y<|.keep Y Y<|.keep Y Y<|.keep Y Y<|.lent 0 (.inr ⟨Nat.le_of_ble_eq_true Y, Y⟩) Y (roM D5) .nil) Y Y<|.own _<|.inr ⟨Nat.le_of_ble_eq_true Y, Y⟩)<|Do 6 Y (ZE (r := 6) Y Zz (.cons (cvs (ov Y)<|Zd Y) Y .nil) Y Y)<|bE h fun l3 h_l3 h=>Do 7 Y (Zn (f := O49) (ov Y) (Zw (o := ⟨49, [[.own 5 y5.length]]⟩) (ov Y) Y Y tZ_49) Zz Y Y (Zb Y) Y h_l3)<|Dq 8 Y (Zg (ov Y) Y Y Zp)<|Do 9 Y (Zh (ov Y) (ov Y) (Zf ZD) Y Y Y (Nat.le_of_ble_eq_true Y) (Zb Y) Y)<|Zx (by kernel_rfl) (Ent.trans (Ent.absorbH (r := 2) (j := 0) (q := 5) Y (Ze h_l3) Y Y (List.length_map ..) Y)<|Ent.closeS (r := 2) Y (Ze h_l3) Y)<|⟨_, h, ES [some 0, some 1, some 2, some 3, some 4] (hhp := .cons Y (ro1 (by exact tZ_26.symm)<|rld Y)<|.cons Y (ro1 (by exact tZ_26.symm)<|rlc (.dat Y)<|rlc (.dat Y)<|rlc (.own _ Y)<|rlc (.own _ Y)<|rlc (.own _ Y) rln)<|.cons Y (roO ZW)<|.cons Y (roM D3)<|.cons Y (roM D4) .nil)⟩
        ·
         refine bE h fun y5 h_y5 h=>Dw 1 5 Y (Zo (ov Y) Y Y Y ZD Y) (Zv [] (Zc h_y5) (.cons (ov Y) (.dat Y)<|.cons (ov Y) (.dat Y) .nil) .nil Y (.keep Y Y<|.keep Y Y<|.keep Y Y<|.keep Y Y<|.keep Y Y<|.lent 0 (.inr ⟨Nat.le_of_ble_eq_true Y, Y⟩) Y (roM D5) .nil) Y Y<|.own _<|.inr ⟨Nat.le_of_ble_eq_true Y, Y⟩) ?_ ?_
         ·
          exact Do 5 Y (Zv [] (Zc h_y5) (.cons (ov Y) (.dat Y)<|.cons (ov Y) (.dat Y) .nil) .nil Y (.keep Y Y<|.keep Y Y<|.keep Y Y<|.keep Y Y<|.keep Y Y<|.lent 0 (.inr ⟨Nat.le_of_ble_eq_true Y, Y⟩) Y (roM D5) .nil) Y Y<|.own _<|.inr ⟨Nat.le_of_ble_eq_true Y, Y⟩)<|Do 6 Y (ZE (r := 6) Y Zz (.cons (cvs (ov Y)<|Zd Y) Y .nil) Y Y)<|bE h fun l3 h_l3 h=>Do 7 Y (Zn (f := O49) (ov Y) (Zw (o := ⟨49, [[.own 5 y5.length]]⟩) (ov Y) Y Y tZ_49) Zz Y Y (Zb Y) Y h_l3)<|Dq 8 Y (Zg (ov Y) Y Y Zp)<|Do 9 Y (Zh (ov Y) (ov Y) (Zf ZD) Y Y Y (Nat.le_of_ble_eq_true Y) (Zb Y) Y)<|Zx (by kernel_rfl) (Ent.trans (Ent.absorbH (r := 2) (j := 0) (q := 5) Y (Ze h_l3) Y Y (List.length_map ..) Y)<|Ent.closeS (r := 2) Y (Ze h_l3) Y)<|⟨_, h, ES [some 0, some 1, some 2, some 3, some 4] (hhp := .cons Y (ro1 (by exact tZ_26.symm)<|rld Y)<|.cons Y (ro1 (by exact tZ_26.symm)<|rlc (.dat Y)<|rlc (.dat Y)<|rlc (.own _ Y)<|rlc (.own _ Y)<|rlc (.own _ Y) rln)<|.cons Y (roO ZW)<|.cons Y (roM D3)<|.cons Y (roM D4) .nil)⟩
         ·
          refine Dw 1 6 Y (Zo (ov Y) Y Y Y ZD Y) (ZE (r := 6) Y Zz (.cons (cvs (ov Y)<|Zd Y) Y .nil) Y Y) ?_ ?_
          ·
           exact Do 6 Y (ZE (r := 6) Y Zz (.cons (cvs (ov Y)<|Zd Y) Y .nil) Y Y)<|bE h fun l3 h_l3 h=>Do 7 Y (Zn (f := O49) (ov Y) (Zw (o := ⟨49, [[.own 5 y5.length]]⟩) (ov Y) Y Y tZ_49) Zz Y Y (Zb Y) Y h_l3)<|Dq 8 Y (Zg (ov Y) Y Y Zp)<|Do 9 Y (Zh (ov Y) (ov Y) (Zf ZD) Y Y Y (Nat.le_of_ble_eq_true Y) (Zb Y) Y)<|Zx (by kernel_rfl) (Ent.trans (Ent.absorbH (r := 2) (j := 0) (q := 5) Y (Ze h_l3) Y Y (List.length_map ..) Y)<|Ent.closeS (r := 2) Y (Ze h_l3) Y)<|⟨_, h, ES [some 0, some 1, some 2, some 3, some 4] (hhp := .cons Y (ro1 (by exact tZ_26.symm)<|rld Y)<|.cons Y (ro1 (by exact tZ_26.symm)<|rlc (.dat Y)<|rlc (.dat Y)<|rlc (.own _ Y)<|rlc (.own _ Y)<|rlc (.own _ Y) rln)<|.cons Y (roO ZW)<|.cons Y (roM D3)<|.cons Y (roM D4) .nil)⟩
          ·
           exact Dq 1 Y (Zo (ov Y) Y Y Y ZD Y)<|bE h fun l3 h_l3 h=>Do 7 Y (Zn (f := O49) (ov Y) (Zw (o := ⟨49, [[.own 5 y5.length]]⟩) (ov Y) Y Y tZ_49) Zz Y Y (Zb Y) Y h_l3)<|Dq 8 Y (Zg (ov Y) Y Y Zp)<|Do 9 Y (Zh (ov Y) (ov Y) (Zf ZD) Y Y Y (Nat.le_of_ble_eq_true Y) (Zb Y) Y)<|Zx (by kernel_rfl) (Ent.trans (Ent.absorbH (r := 2) (j := 0) (q := 5) Y (Ze h_l3) Y Y (List.length_map ..) Y)<|Ent.closeS (r := 2) Y (Ze h_l3) Y)<|⟨_, h, ES [some 0, some 1, some 2, some 3, some 4] (hhp := .cons Y (ro1 (by exact tZ_26.symm)<|rld Y)<|.cons Y (ro1 (by exact tZ_26.symm)<|rlc (.dat Y)<|rlc (.dat Y)<|rlc (.own _ Y)<|rlc (.own _ Y)<|rlc (.own _ Y) rln)<|.cons Y (roO ZW)<|.cons Y (roM D3)<|.cons Y (roM D4) .nil)⟩
      ·
       refine Dw 0 4 Y (Zg (ov Y) Y Y Zp) (Z7<|Zq (Zy h_y4)<|.cons (ov Y) (.b Y) .nil) ?_ ?_
       ·
        refine Dw 1 4 Y (Zo (ov Y) Y Y Y ZD Y) (Z7<|Zq (Zy h_y4)<|.cons (ov Y) (.b Y) .nil) ?_ ?_
        ·
         exact Do 4 Y (Z7<|Zq (Zy h_y4)<|.cons (ov Y) (.b Y) .nil)<|bE h fun y5 h_y5 h=>Do 5 Y (Zv [] (Zc h_y5) (.cons (ov Y) (.dat Y)<|.cons (ov Y) (.dat Y) .nil) .nil Y (.keep Y Y<|.keep Y Y<|.keep Y Y<|.keep Y Y<|.keep Y Y<|.lent 0 (.inr ⟨Nat.le_of_ble_eq_true Y, Y⟩) Y (roM D5) .nil) Y Y<|.own _<|.inr ⟨Nat.le_of_ble_eq_true Y, Y⟩)<|Do 6 Y (ZE (r := 6) Y Zz (.cons (cvs (ov Y)<|Zd Y) Y .nil) Y Y)<|bE h fun l3 h_l3 h=>Do 7 Y (Zn (f := O49) (ov Y) (Zw (o := ⟨49, [[.own 5 y5.length]]⟩) (ov Y) Y Y tZ_49) Zz Y Y (Zb Y) Y h_l3)<|Dq 8 Y (Zg (ov Y) Y Y Zp)<|Do 9 Y (Zh (ov Y) (ov Y) (Zf ZD) Y Y Y (Nat.le_of_ble_eq_true Y) (Zb Y) Y)<|Zx (by kernel_rfl) (Ent.trans (Ent.absorbH (r := 2) (j := 0) (q := 5) Y (Ze h_l3) Y Y (List.length_map ..) Y)<|Ent.closeS (r := 2) Y (Ze h_l3) Y)<|⟨_, h, ES [some 0, some 1, some 2, some 3, some 4] (hhp := .cons Y (ro1 (by exact tZ_26.symm)<|rld Y)<|.cons Y (ro1 (by exact tZ_26.symm)<|rlc (.dat Y)<|rlc (.dat Y)<|rlc (.own _ Y)<|rlc (.own _ Y)<|rlc (.own _ Y) rln)<|.cons Y (roO ZW)<|.cons Y (roM D3)<|.cons Y (roM D4) .nil)⟩
        ·
         refine bE h fun y5 h_y5 h=>Dw 1 5 Y (Zo (ov Y) Y Y Y ZD Y) (Zv [] (Zc h_y5) (.cons (ov Y) (.dat Y)<|.cons (ov Y) (.dat Y) .nil) .nil Y (.keep Y Y<|.keep Y Y<|.keep Y Y<|.keep Y Y<|.keep Y Y<|.lent 0 (.inr ⟨Nat.le_of_ble_eq_true Y, Y⟩) Y (roM D5) .nil) Y Y<|.own _<|.inr ⟨Nat.le_of_ble_eq_true Y, Y⟩) ?_ ?_
         ·
          exact Do 5 Y (Zv [] (Zc h_y5) (.cons (ov Y) (.dat Y)<|.cons (ov Y) (.dat Y) .nil) .nil Y (.keep Y Y<|.keep Y Y<|.keep Y Y<|.keep Y Y<|.keep Y Y<|.lent 0 (.inr ⟨Nat.le_of_ble_eq_true Y, Y⟩) Y (roM D5) .nil) Y Y<|.own _<|.inr ⟨Nat.le_of_ble_eq_true Y, Y⟩)<|Do 6 Y (ZE (r := 6) Y Zz (.cons (cvs (ov Y)<|Zd Y) Y .nil) Y Y)<|bE h fun l3 h_l3 h=>Do 7 Y (Zn (f := O49) (ov Y) (Zw (o := ⟨49, [[.own 5 y5.length]]⟩) (ov Y) Y Y tZ_49) Zz Y Y (Zb Y) Y h_l3)<|Dq 8 Y (Zg (ov Y) Y Y Zp)<|Do 9 Y (Zh (ov Y) (ov Y) (Zf ZD) Y Y Y (Nat.le_of_ble_eq_true Y) (Zb Y) Y)<|Zx (by kernel_rfl) (Ent.trans (Ent.absorbH (r := 2) (j := 0) (q := 5) Y (Ze h_l3) Y Y (List.length_map ..) Y)<|Ent.closeS (r := 2) Y (Ze h_l3) Y)<|⟨_, h, ES [some 0, some 1, some 2, some 3, some 4] (hhp := .cons Y (ro1 (by exact tZ_26.symm)<|rld Y)<|.cons Y (ro1 (by exact tZ_26.symm)<|rlc (.dat Y)<|rlc (.dat Y)<|rlc (.own _ Y)<|rlc (.own _ Y)<|rlc (.own _ Y) rln)<|.cons Y (roO ZW)<|.cons Y (roM D3)<|.cons Y (roM D4) .nil)⟩
         ·
          refine Dw 1 6 Y (Zo (ov Y) Y Y Y ZD Y) (ZE (r := 6) Y Zz (.cons (cvs (ov Y)<|Zd Y) Y .nil) Y Y) ?_ ?_
          ·
           exact Do 6 Y (ZE (r := 6) Y Zz (.cons (cvs (ov Y)<|Zd Y) Y .nil) Y Y)<|bE h fun l3 h_l3 h=>Do 7 Y (Zn (f := O49) (ov Y) (Zw (o := ⟨49, [[.own 5 y5.length]]⟩) (ov Y) Y Y tZ_49) Zz Y Y (Zb Y) Y h_l3)<|Dq 8 Y (Zg (ov Y) Y Y Zp)<|Do 9 Y (Zh (ov Y) (ov Y) (Zf ZD) Y Y Y (Nat.le_of_ble_eq_true Y) (Zb Y) Y)<|Zx (by kernel_rfl) (Ent.trans (Ent.absorbH (r := 2) (j := 0) (q := 5) Y (Ze h_l3) Y Y (List.length_map ..) Y)<|Ent.closeS (r := 2) Y (Ze h_l3) Y)<|⟨_, h, ES [some 0, some 1, some 2, some 3, some 4] (hhp := .cons Y (ro1 (by exact tZ_26.symm)<|rld Y)<|.cons Y (ro1 (by exact tZ_26.symm)<|rlc (.dat Y)<|rlc (.dat Y)<|rlc (.own _ Y)<|rlc (.own _ Y)<|rlc (.own _ Y) rln)<|.cons Y (roO ZW)<|.cons Y (roM D3)<|.cons Y (roM D4) .nil)⟩
          ·
           exact Dq 1 Y (Zo (ov Y) Y Y Y ZD Y)<|bE h fun l3 h_l3 h=>Do 7 Y (Zn (f := O49) (ov Y) (Zw (o := ⟨49, [[.own 5 y5.length]]⟩) (ov Y) Y Y tZ_49) Zz Y Y (Zb Y) Y h_l3)<|Dq 8 Y (Zg (ov Y) Y Y Zp)<|Do 9 Y (Zh (ov Y) (ov Y) (Zf ZD) Y Y Y (Nat.le_of_ble_eq_true Y) (Zb Y) Y)<|Zx (by kernel_rfl) (Ent.trans (Ent.absorbH (r := 2) (j := 0) (q := 5) Y (Ze h_l3) Y Y (List.length_map ..) Y)<|Ent.closeS (r := 2) Y (Ze h_l3) Y)<|⟨_, h, ES [some 0, some 1, some 2, some 3, some 4] (hhp := .cons Y (ro1 (by exact tZ_26.symm)<|rld Y)<|.cons Y (ro1 (by exact tZ_26.symm)<|rlc (.dat Y)<|rlc (.dat Y)<|rlc (.own _ Y)<|rlc (.own _ Y)<|rlc (.own _ Y) rln)<|.cons Y (roO ZW)<|.cons Y (roM D3)<|.cons Y (roM D4) .nil)⟩
       ·
        refine bE h fun y5 h_y5 h=>Dw 0 5 Y (Zg (ov Y) Y Y Zp) (Zv [] (Zc h_y5) (.cons (ov Y) (.dat Y)<|.cons (ov Y) (.dat Y) .nil) .nil Y (.keep Y Y<|.keep Y Y<|.keep Y Y<|.keep Y Y<|.keep Y Y<|.lent 0 (.inr ⟨Nat.le_of_ble_eq_true Y, Y⟩) Y (roM D5) .nil) Y Y<|.own _<|.inr ⟨Nat.le_of_ble_eq_true Y, Y⟩) ?_ ?_
        ·
         refine Dw 1 5 Y (Zo (ov Y) Y Y Y ZD Y) (Zv [] (Zc h_y5) (.cons (ov Y) (.dat Y)<|.cons (ov Y) (.dat Y) .nil) .nil Y (.keep Y Y<|.keep Y Y<|.keep Y Y<|.keep Y Y<|.keep Y Y<|.lent 0 (.inr ⟨Nat.le_of_ble_eq_true Y, Y⟩) Y (roM D5) .nil) Y Y<|.own _<|.inr ⟨Nat.le_of_ble_eq_true Y, Y⟩) ?_ ?_
         ·
          exact Do 5 Y (Zv [] (Zc h_y5) (.cons (ov Y) (.dat Y)<|.cons (ov Y) (.dat Y) .nil) .nil Y (.keep Y Y<|.keep Y Y<|.keep Y Y<|.keep Y Y<|.keep Y Y<|.lent 0 (.inr ⟨Nat.le_of_ble_eq_true Y, Y⟩) Y (roM D5) .nil) Y Y<|.own _<|.inr ⟨Nat.le_of_ble_eq_true Y, Y⟩)<|Do 6 Y (ZE (r := 6) Y Zz (.cons (cvs (ov Y)<|Zd Y) Y .nil) Y Y)<|bE h fun l3 h_l3 h=>Do 7 Y (Zn (f := O49) (ov Y) (Zw (o := ⟨49, [[.own 5 y5.length]]⟩) (ov Y) Y Y tZ_49) Zz Y Y (Zb Y) Y h_l3)<|Dq 8 Y (Zg (ov Y) Y Y Zp)<|Do 9 Y (Zh (ov Y) (ov Y) (Zf ZD) Y Y Y (Nat.le_of_ble_eq_true Y) (Zb Y) Y)<|Zx (by kernel_rfl) (Ent.trans (Ent.absorbH (r := 2) (j := 0) (q := 5) Y (Ze h_l3) Y Y (List.length_map ..) Y)<|Ent.closeS (r := 2) Y (Ze h_l3) Y)<|⟨_, h, ES [some 0, some 1, some 2, some 3, some 4] (hhp := .cons Y (ro1 (by exact tZ_26.symm)<|rld Y)<|.cons Y (ro1 (by exact tZ_26.symm)<|rlc (.dat Y)<|rlc (.dat Y)<|rlc (.own _ Y)<|rlc (.own _ Y)<|rlc (.own _ Y) rln)<|.cons Y (roO ZW)<|.cons Y (roM D3)<|.cons Y (roM D4) .nil)⟩
         ·
          refine Dw 1 6 Y (Zo (ov Y) Y Y Y ZD Y) (ZE (r := 6) Y Zz (.cons (cvs (ov Y)<|Zd Y) Y .nil) Y Y) ?_ ?_
          ·
           exact Do 6 Y (ZE (r := 6) Y Zz (.cons (cvs (ov Y)<|Zd Y) Y .nil) Y Y)<|bE h fun l3 h_l3 h=>Do 7 Y (Zn (f := O49) (ov Y) (Zw (o := ⟨49, [[.own 5 y5.length]]⟩) (ov Y) Y Y tZ_49) Zz Y Y (Zb Y) Y h_l3)<|Dq 8 Y (Zg (ov Y) Y Y Zp)<|Do 9 Y (Zh (ov Y) (ov Y) (Zf ZD) Y Y Y (Nat.le_of_ble_eq_true Y) (Zb Y) Y)<|Zx (by kernel_rfl) (Ent.trans (Ent.absorbH (r := 2) (j := 0) (q := 5) Y (Ze h_l3) Y Y (List.length_map ..) Y)<|Ent.closeS (r := 2) Y (Ze h_l3) Y)<|⟨_, h, ES [some 0, some 1, some 2, some 3, some 4] (hhp := .cons Y (ro1 (by exact tZ_26.symm)<|rld Y)<|.cons Y (ro1 (by exact tZ_26.symm)<|rlc (.dat Y)<|rlc (.dat Y)<|rlc (.own _ Y)<|rlc (.own _ Y)<|rlc (.own _ Y) rln)<|.cons Y (roO ZW)<|.cons Y (roM D3)<|.cons Y (roM D4) .nil)⟩
          ·
           exact Dq 1 Y (Zo (ov Y) Y Y Y ZD Y)<|bE h fun l3 h_l3 h=>Do 7 Y (Zn (f := O49) (ov Y) (Zw (o := ⟨49, [[.own 5 y5.length]]⟩) (ov Y) Y Y tZ_49) Zz Y Y (Zb Y) Y h_l3)<|Dq 8 Y (Zg (ov Y) Y Y Zp)<|Do 9 Y (Zh (ov Y) (ov Y) (Zf ZD) Y Y Y (Nat.le_of_ble_eq_true Y) (Zb Y) Y)<|Zx (by kernel_rfl) (Ent.trans (Ent.absorbH (r := 2) (j := 0) (q := 5) Y (Ze h_l3) Y Y (List.length_map ..) Y)<|Ent.closeS (r := 2) Y (Ze h_l3) Y)<|⟨_, h, ES [some 0, some 1, some 2, some 3, some 4] (hhp := .cons Y (ro1 (by exact tZ_26.symm)<|rld Y)<|.cons Y (ro1 (by exact tZ_26.symm)<|rlc (.dat Y)<|rlc (.dat Y)<|rlc (.own _ Y)<|rlc (.own _ Y)<|rlc (.own _ Y) rln)<|.cons Y (roO ZW)<|.cons Y (roM D3)<|.cons Y (roM D4) .nil)⟩
        ·
         refine Dw 0 6 Y (Zg (ov Y) Y Y Zp) (ZE (r := 6) Y Zz (.cons (cvs (ov Y)<|Zd Y) Y .nil) Y Y) ?_ ?_
         ·
          refine Dw 1 6 Y (Zo (ov Y) Y Y Y ZD Y) (ZE (r := 6) Y Zz (.cons (cvs (ov Y)<|Zd Y) Y .nil) Y Y) ?_ ?_
          ·
           exact Do 6 Y (ZE (r := 6) Y Zz (.cons (cvs (ov Y)<|Zd Y) Y .nil) Y Y)<|bE h fun l3 h_l3 h=>Do 7 Y (Zn (f := O49) (ov Y) (Zw (o := ⟨49, [[.own 5 y5.length]]⟩) (ov Y) Y Y tZ_49) Zz Y Y (Zb Y) Y h_l3)<|Dq 8 Y (Zg (ov Y) Y Y Zp)<|Do 9 Y (Zh (ov Y) (ov Y) (Zf ZD) Y Y Y (Nat.le_of_ble_eq_true Y) (Zb Y) Y)<|Zx (by kernel_rfl) (Ent.trans (Ent.absorbH (r := 2) (j := 0) (q := 5) Y (Ze h_l3) Y Y (List.length_map ..) Y)<|Ent.closeS (r := 2) Y (Ze h_l3) Y)<|⟨_, h, ES [some 0, some 1, some 2, some 3, some 4] (hhp := .cons Y (ro1 (by exact tZ_26.symm)<|rld Y)<|.cons Y (ro1 (by exact tZ_26.symm)<|rlc (.dat Y)<|rlc (.dat Y)<|rlc (.own _ Y)<|rlc (.own _ Y)<|rlc (.own _ Y) rln)<|.cons Y (roO ZW)<|.cons Y (roM D3)<|.cons Y (roM D4) .nil)⟩
          ·
           exact Dq 1 Y (Zo (ov Y) Y Y Y ZD Y)<|bE h fun l3 h_l3 h=>Do 7 Y (Zn (f := O49) (ov Y) (Zw (o := ⟨49, [[.own 5 y5.length]]⟩) (ov Y) Y Y tZ_49) Zz Y Y (Zb Y) Y h_l3)<|Dq 8 Y (Zg (ov Y) Y Y Zp)<|Do 9 Y (Zh (ov Y) (ov Y) (Zf ZD) Y Y Y (Nat.le_of_ble_eq_true Y) (Zb Y) Y)<|Zx (by kernel_rfl) (Ent.trans (Ent.absorbH (r := 2) (j := 0) (q := 5) Y (Ze h_l3) Y Y (List.length_map ..) Y)<|Ent.closeS (r := 2) Y (Ze h_l3) Y)<|⟨_, h, ES [some 0, some 1, some 2, some 3, some 4] (hhp := .cons Y (ro1 (by exact tZ_26.symm)<|rld Y)<|.cons Y (ro1 (by exact tZ_26.symm)<|rlc (.dat Y)<|rlc (.dat Y)<|rlc (.own _ Y)<|rlc (.own _ Y)<|rlc (.own _ Y) rln)<|.cons Y (roO ZW)<|.cons Y (roM D3)<|.cons Y (roM D4) .nil)⟩
         ·
          exact Dq 0 Y (Zg (ov Y) Y Y Zp)<|Dq 1 Y (Zo (ov Y) Y Y Y ZD Y)<|bE h fun l3 h_l3 h=>Do 7 Y (Zn (f := O49) (ov Y) (Zw (o := ⟨49, [[.own 5 y5.length]]⟩) (ov Y) Y Y tZ_49) Zz Y Y (Zb Y) Y h_l3)<|Dq 8 Y (Zg (ov Y) Y Y Zp)<|Do 9 Y (Zh (ov Y) (ov Y) (Zf ZD) Y Y Y (Nat.le_of_ble_eq_true Y) (Zb Y) Y)<|Zx (by kernel_rfl) (Ent.trans (Ent.absorbH (r := 2) (j := 0) (q := 5) Y (Ze h_l3) Y Y (List.length_map ..) Y)<|Ent.closeS (r := 2) Y (Ze h_l3) Y)<|⟨_, h, ES [some 0, some 1, some 2, some 3, some 4] (hhp := .cons Y (ro1 (by exact tZ_26.symm)<|rld Y)<|.cons Y (ro1 (by exact tZ_26.symm)<|rlc (.dat Y)<|rlc (.dat Y)<|rlc (.own _ Y)<|rlc (.own _ Y)<|rlc (.own _ Y) rln)<|.cons Y (roO ZW)<|.cons Y (roM D3)<|.cons Y (roM D4) .nil)⟩
      ·
       refine Dw 0 2 Y (Zg (ov Y) Y Y Zp) (Z7<|Q0 Qg (.cons (cvs (ov Y)<|Zd Y) Y (.cons (.b Y) .nil) .nil) Y Y) ?_ ?_
       ·
        refine Dw 1 2 Y (Zo (ov Y) Y Y Y ZD Y) (Z7<|Q0 Qg (.cons (cvs (ov Y)<|Zd Y) Y (.cons (.b Y) .nil) .nil) Y Y) ?_ ?_
        ·
         exact QA 2 (.sl 5<|List.map R5 ([255] : List Int)) _ Y (by kernel_rfl) Y Y (fun h=>by cases h) (fun h=>by cases h) (Z7<|Q0 Qg (.cons (cvs (ov Y)<|Zd Y) Y (.cons (.b Y) .nil) .nil) Y Y)<|bE h fun y5 h_y5 h=>Do 5 Y (Zv [] (Zc h_y5) (.cons (ov Y) (.dat Y)<|.cons (ov Y) (.dat Y) .nil) .nil Y (.keep Y Y<|.keep Y Y<|.keep Y Y<|.keep Y Y<|.keep Y Y<|.lent 0 (.inr ⟨Nat.le_of_ble_eq_true Y, Y⟩) Y (roM D5) .nil) Y Y<|.own _<|.inr ⟨Nat.le_of_ble_eq_true Y, Y⟩)<|Do 6 Y (ZE (r := 6) Y Zz (.cons (cvs (ov Y)<|Zd Y) Y .nil) Y Y)<|bE h fun l3 h_l3 h=>Do 7 Y (Zn (f := O49) (ov Y) (Zw (o := ⟨49, [[.own 5 y5.length]]⟩) (ov Y) Y Y tZ_49) Zz Y Y (Zb Y) Y h_l3)<|Dq 8 Y (Zg (ov Y) Y Y Zp)<|Do 9 Y (Zh (ov Y) (ov Y) (Zf ZD) Y Y Y (Nat.le_of_ble_eq_true Y) (Zb Y) Y)<|Zx (by kernel_rfl) (Ent.trans (Ent.absorbH (r := 2) (j := 0) (q := 5) Y (Ze h_l3) Y Y (List.length_map ..) Y)<|Ent.closeS (r := 2) Y (Ze h_l3) Y)<|⟨_, h, ES [some 0, some 1, some 2, some 3, some 4] (hhp := .cons Y (ro1 (by exact tZ_26.symm)<|rld Y)<|.cons Y (ro1 (by exact tZ_26.symm)<|rlc (.dat Y)<|rlc (.dat Y)<|rlc (.own _ Y)<|rlc (.own _ Y)<|rlc (.own _ Y) rln)<|.cons Y (roO ZW)<|.cons Y (roM D3)<|.cons Y (roM D4) .nil)⟩
        ·
         refine bE h fun y5 h_y5 h=>Dw 1 5 Y (Zo (ov Y) Y Y Y ZD Y) (Zv [] (Zc h_y5) (.cons (ov Y) (.dat Y)<|.cons (ov Y) (.dat Y) .nil) .nil Y (.keep Y Y<|.keep Y Y<|.keep Y Y<|.keep Y Y<|.keep Y Y<|.lent 0 (.inr ⟨Nat.le_of_ble_eq_true Y, Y⟩) Y (roM D5) .nil) Y Y<|.own _<|.inr ⟨Nat.le_of_ble_eq_true Y, Y⟩) ?_ ?_
         ·
          exact Do 5 Y (Zv [] (Zc h_y5) (.cons (ov Y) (.dat Y)<|.cons (ov Y) (.dat Y) .nil) .nil Y (.keep Y Y<|.keep Y Y<|.keep Y Y<|.keep Y Y<|.keep Y Y<|.lent 0 (.inr ⟨Nat.le_of_ble_eq_true Y, Y⟩) Y (roM D5) .nil) Y Y<|.own _<|.inr ⟨Nat.le_of_ble_eq_true Y, Y⟩)<|Do 6 Y (ZE (r := 6) Y Zz (.cons (cvs (ov Y)<|Zd Y) Y .nil) Y Y)<|bE h fun l3 h_l3 h=>Do 7 Y (Zn (f := O49) (ov Y) (Zw (o := ⟨49, [[.own 5 y5.length]]⟩) (ov Y) Y Y tZ_49) Zz Y Y (Zb Y) Y h_l3)<|Dq 8 Y (Zg (ov Y) Y Y Zp)<|Do 9 Y (Zh (ov Y) (ov Y) (Zf ZD) Y Y Y (Nat.le_of_ble_eq_true Y) (Zb Y) Y)<|Zx (by kernel_rfl) (Ent.trans (Ent.absorbH (r := 2) (j := 0) (q := 5) Y (Ze h_l3) Y Y (List.length_map ..) Y)<|Ent.closeS (r := 2) Y (Ze h_l3) Y)<|⟨_, h, ES [some 0, some 1, some 2, some 3, some 4] (hhp := .cons Y (ro1 (by exact tZ_26.symm)<|rld Y)<|.cons Y (ro1 (by exact tZ_26.symm)<|rlc (.dat Y)<|rlc (.dat Y)<|rlc (.own _ Y)<|rlc (.own _ Y)<|rlc (.own _ Y) rln)<|.cons Y (roO ZW)<|.cons Y (roM D3)<|.cons Y (roM D4) .nil)⟩
         ·
          refine Dw 1 6 Y (Zo (ov Y) Y Y Y ZD Y) (ZE (r := 6) Y Zz (.cons (cvs (ov Y)<|Zd Y) Y .nil) Y Y) ?_ ?_
          ·
           exact Do 6 Y (ZE (r := 6) Y Zz (.cons (cvs (ov Y)<|Zd Y) Y .nil) Y Y)<|bE h fun l3 h_l3 h=>Do 7 Y (Zn (f := O49) (ov Y) (Zw (o := ⟨49, [[.own 5 y5.length]]⟩) (ov Y) Y Y tZ_49) Zz Y Y (Zb Y) Y h_l3)<|Dq 8 Y (Zg (ov Y) Y Y Zp)<|Do 9 Y (Zh (ov Y) (ov Y) (Zf ZD) Y Y Y (Nat.le_of_ble_eq_true Y) (Zb Y) Y)<|Zx (by kernel_rfl) (Ent.trans (Ent.absorbH (r := 2) (j := 0) (q := 5) Y (Ze h_l3) Y Y (List.length_map ..) Y)<|Ent.closeS (r := 2) Y (Ze h_l3) Y)<|⟨_, h, ES [some 0, some 1, some 2, some 3, some 4] (hhp := .cons Y (ro1 (by exact tZ_26.symm)<|rld Y)<|.cons Y (ro1 (by exact tZ_26.symm)<|rlc (.dat Y)<|rlc (.dat Y)<|rlc (.own _ Y)<|rlc (.own _ Y)<|rlc (.own _ Y) rln)<|.cons Y (roO ZW)<|.cons Y (roM D3)<|.cons Y (roM D4) .nil)⟩
          ·
           exact Dq 1 Y (Zo (ov Y) Y Y Y ZD Y)<|bE h fun l3 h_l3 h=>Do 7 Y (Zn (f := O49) (ov Y) (Zw (o := ⟨49, [[.own 5 y5.length]]⟩) (ov Y) Y Y tZ_49) Zz Y Y (Zb Y) Y h_l3)<|Dq 8 Y (Zg (ov Y) Y Y Zp)<|Do 9 Y (Zh (ov Y) (ov Y) (Zf ZD) Y Y Y (Nat.le_of_ble_eq_true Y) (Zb Y) Y)<|Zx (by kernel_rfl) (Ent.trans (Ent.absorbH (r := 2) (j := 0) (q := 5) Y (Ze h_l3) Y Y (List.length_map ..) Y)<|Ent.closeS (r := 2) Y (Ze h_l3) Y)<|⟨_, h, ES [some 0, some 1, some 2, some 3, some 4] (hhp := .cons Y (ro1 (by exact tZ_26.symm)<|rld Y)<|.cons Y (ro1 (by exact tZ_26.symm)<|rlc (.dat Y)<|rlc (.dat Y)<|rlc (.own _ Y)<|rlc (.own _ Y)<|rlc (.own _ Y) rln)<|.cons Y (roO ZW)<|.cons Y (roM D3)<|.cons Y (roM D4) .nil)⟩
       ·
        refine bE h fun y5 h_y5 h=>Dw 0 5 Y (Zg (ov Y) Y Y Zp) (Zv [] (Zc h_y5) (.cons (ov Y) (.dat Y)<|.cons (ov Y) (.dat Y) .nil) .nil Y (.keep Y Y<|.keep Y Y<|.keep Y Y<|.keep Y Y<|.keep Y Y<|.lent 0 (.inr ⟨Nat.le_of_ble_eq_true Y, Y⟩) Y (roM D5) .nil) Y Y<|.own _<|.inr ⟨Nat.le_of_ble_eq_true Y, Y⟩) ?_ ?_
        ·
         refine Dw 1 5 Y (Zo (ov Y) Y Y Y ZD Y) (Zv [] (Zc h_y5) (.cons (ov Y) (.dat Y)<|.cons (ov Y) (.dat Y) .nil) .nil Y (.keep Y Y<|.keep Y Y<|.keep Y Y<|.keep Y Y<|.keep Y Y<|.lent 0 (.inr ⟨Nat.le_of_ble_eq_true Y, Y⟩) Y (roM D5) .nil) Y Y<|.own _<|.inr ⟨Nat.le_of_ble_eq_true Y, Y⟩) ?_ ?_
         ·
          exact Do 5 Y (Zv [] (Zc h_y5) (.cons (ov Y) (.dat Y)<|.cons (ov Y) (.dat Y) .nil) .nil Y (.keep Y Y<|.keep Y Y<|.keep Y Y<|.keep Y Y<|.keep Y Y<|.lent 0 (.inr ⟨Nat.le_of_ble_eq_true Y, Y⟩) Y (roM D5) .nil) Y Y<|.own _<|.inr ⟨Nat.le_of_ble_eq_true Y, Y⟩)<|Do 6 Y (ZE (r := 6) Y Zz (.cons (cvs (ov Y)<|Zd Y) Y .nil) Y Y)<|bE h fun l3 h_l3 h=>Do 7 Y (Zn (f := O49) (ov Y) (Zw (o := ⟨49, [[.own 5 y5.length]]⟩) (ov Y) Y Y tZ_49) Zz Y Y (Zb Y) Y h_l3)<|Dq 8 Y (Zg (ov Y) Y Y Zp)<|Do 9 Y (Zh (ov Y) (ov Y) (Zf ZD) Y Y Y (Nat.le_of_ble_eq_true Y) (Zb Y) Y)<|Zx (by kernel_rfl) (Ent.trans (Ent.absorbH (r := 2) (j := 0) (q := 5) Y (Ze h_l3) Y Y (List.length_map ..) Y)<|Ent.closeS (r := 2) Y (Ze h_l3) Y)<|⟨_, h, ES [some 0, some 1, some 2, some 3, some 4] (hhp := .cons Y (ro1 (by exact tZ_26.symm)<|rld Y)<|.cons Y (ro1 (by exact tZ_26.symm)<|rlc (.dat Y)<|rlc (.dat Y)<|rlc (.own _ Y)<|rlc (.own _ Y)<|rlc (.own _ Y) rln)<|.cons Y (roO ZW)<|.cons Y (roM D3)<|.cons Y (roM D4) .nil)⟩
         ·
          refine Dw 1 6 Y (Zo (ov Y) Y Y Y ZD Y) (ZE (r := 6) Y Zz (.cons (cvs (ov Y)<|Zd Y) Y .nil) Y Y) ?_ ?_
          ·
           exact Do 6 Y (ZE (r := 6) Y Zz (.cons (cvs (ov Y)<|Zd Y) Y .nil) Y Y)<|bE h fun l3 h_l3 h=>Do 7 Y (Zn (f := O49) (ov Y) (Zw (o := ⟨49, [[.own 5 y5.length]]⟩) (ov Y) Y Y tZ_49) Zz Y Y (Zb Y) Y h_l3)<|Dq 8 Y (Zg (ov Y) Y Y Zp)<|Do 9 Y (Zh (ov Y) (ov Y) (Zf ZD) Y Y Y (Nat.le_of_ble_eq_true Y) (Zb Y) Y)<|Zx (by kernel_rfl) (Ent.trans (Ent.absorbH (r := 2) (j := 0) (q := 5) Y (Ze h_l3) Y Y (List.length_map ..) Y)<|Ent.closeS (r := 2) Y (Ze h_l3) Y)<|⟨_, h, ES [some 0, some 1, some 2, some 3, some 4] (hhp := .cons Y (ro1 (by exact tZ_26.symm)<|rld Y)<|.cons Y (ro1 (by exact tZ_26.symm)<|rlc (.dat Y)<|rlc (.dat Y)<|rlc (.own _ Y)<|rlc (.own _ Y)<|rlc (.own _ Y) rln)<|.cons Y (roO ZW)<|.cons Y (roM D3)<|.cons Y (roM D4) .nil)⟩
          ·
           exact Dq 1 Y (Zo (ov Y) Y Y Y ZD Y)<|bE h fun l3 h_l3 h=>Do 7 Y (Zn (f := O49) (ov Y) (Zw (o := ⟨49, [[.own 5 y5.length]]⟩) (ov Y) Y Y tZ_49) Zz Y Y (Zb Y) Y h_l3)<|Dq 8 Y (Zg (ov Y) Y Y Zp)<|Do 9 Y (Zh (ov Y) (ov Y) (Zf ZD) Y Y Y (Nat.le_of_ble_eq_true Y) (Zb Y) Y)<|Zx (by kernel_rfl) (Ent.trans (Ent.absorbH (r := 2) (j := 0) (q := 5) Y (Ze h_l3) Y Y (List.length_map ..) Y)<|Ent.closeS (r := 2) Y (Ze h_l3) Y)<|⟨_, h, ES [some 0, some 1, some 2, some 3, some 4] (hhp := .cons Y (ro1 (by exact tZ_26.symm)<|rld Y)<|.cons Y (ro1 (by exact tZ_26.symm)<|rlc (.dat Y)<|rlc (.dat Y)<|rlc (.own _ Y)<|rlc (.own _ Y)<|rlc (.own _ Y) rln)<|.cons Y (roO ZW)<|.cons Y (roM D3)<|.cons Y (roM D4) .nil)⟩
        ·
         refine Dw 0 6 Y (Zg (ov Y) Y Y Zp) (ZE (r := 6) Y Zz (.cons (cvs (ov Y)<|Zd Y) Y .nil) Y Y) ?_ ?_
         ·
          refine Dw 1 6 Y (Zo (ov Y) Y Y Y ZD Y) (ZE (r := 6) Y Zz (.cons (cvs (ov Y)<|Zd Y) Y .nil) Y Y) ?_ ?_
          ·
           exact Do 6 Y (ZE (r := 6) Y Zz (.cons (cvs (ov Y)<|Zd Y) Y .nil) Y Y)<|bE h fun l3 h_l3 h=>Do 7 Y (Zn (f := O49) (ov Y) (Zw (o := ⟨49, [[.own 5 y5.length]]⟩) (ov Y) Y Y tZ_49) Zz Y Y (Zb Y) Y h_l3)<|Dq 8 Y (Zg (ov Y) Y Y Zp)<|Do 9 Y (Zh (ov Y) (ov Y) (Zf ZD) Y Y Y (Nat.le_of_ble_eq_true Y) (Zb Y) Y)<|Zx (by kernel_rfl) (Ent.trans (Ent.absorbH (r := 2) (j := 0) (q := 5) Y (Ze h_l3) Y Y (List.length_map ..) Y)<|Ent.closeS (r := 2) Y (Ze h_l3) Y)<|⟨_, h, ES [some 0, some 1, some 2, some 3, some 4] (hhp := .cons Y (ro1 (by exact tZ_26.symm)<|rld Y)<|.cons Y (ro1 (by exact tZ_26.symm)<|rlc (.dat Y)<|rlc (.dat Y)<|rlc (.own _ Y)<|rlc (.own _ Y)<|rlc (.own _ Y) rln)<|.cons Y (roO ZW)<|.cons Y (roM D3)<|.cons Y (roM D4) .nil)⟩
          ·
           exact Dq 1 Y (Zo (ov Y) Y Y Y ZD Y)<|bE h fun l3 h_l3 h=>Do 7 Y (Zn (f := O49) (ov Y) (Zw (o := ⟨49, [[.own 5 y5.length]]⟩) (ov Y) Y Y tZ_49) Zz Y Y (Zb Y) Y h_l3)<|Dq 8 Y (Zg (ov Y) Y Y Zp)<|Do 9 Y (Zh (ov Y) (ov Y) (Zf ZD) Y Y Y (Nat.le_of_ble_eq_true Y) (Zb Y) Y)<|Zx (by kernel_rfl) (Ent.trans (Ent.absorbH (r := 2) (j := 0) (q := 5) Y (Ze h_l3) Y Y (List.length_map ..) Y)<|Ent.closeS (r := 2) Y (Ze h_l3) Y)<|⟨_, h, ES [some 0, some 1, some 2, some 3, some 4] (hhp := .cons Y (ro1 (by exact tZ_26.symm)<|rld Y)<|.cons Y (ro1 (by exact tZ_26.symm)<|rlc (.dat Y)<|rlc (.dat Y)<|rlc (.own _ Y)<|rlc (.own _ Y)<|rlc (.own _ Y) rln)<|.cons Y (roO ZW)<|.cons Y (roM D3)<|.cons Y (roM D4) .nil)⟩
         ·
          exact Dq 0 Y (Zg (ov Y) Y Y Zp)<|Dq 1 Y (Zo (ov Y) Y Y Y ZD Y)<|bE h fun l3 h_l3 h=>Do 7 Y (Zn (f := O49) (ov Y) (Zw (o := ⟨49, [[.own 5 y5.length]]⟩) (ov Y) Y Y tZ_49) Zz Y Y (Zb Y) Y h_l3)<|Dq 8 Y (Zg (ov Y) Y Y Zp)<|Do 9 Y (Zh (ov Y) (ov Y) (Zf ZD) Y Y Y (Nat.le_of_ble_eq_true Y) (Zb Y) Y)<|Zx (by kernel_rfl) (Ent.trans (Ent.absorbH (r := 2) (j := 0) (q := 5) Y (Ze h_l3) Y Y (List.length_map ..) Y)<|Ent.closeS (r := 2) Y (Ze h_l3) Y)<|⟨_, h, ES [some 0, some 1, some 2, some 3, some 4] (hhp := .cons Y (ro1 (by exact tZ_26.symm)<|rld Y)<|.cons Y (ro1 (by exact tZ_26.symm)<|rlc (.dat Y)<|rlc (.dat Y)<|rlc (.own _ Y)<|rlc (.own _ Y)<|rlc (.own _ Y) rln)<|.cons Y (roO ZW)<|.cons Y (roM D3)<|.cons Y (roM D4) .nil)⟩
     ·
      exact ZA<|R2 ZY Y<|Rm Y<|Za<|⟨_, h, ES [some 0, some 1, some 2, some 3, some 4] (hhp := .cons Y (ro1 (by exact tZ_26.symm)<|rld Y)<|.cons Y (ro1 (by exact tZ_26.symm)<|rlc (.dat Y)<|rlc (.dat Y)<|rlc (.own _ Y)<|rlc (.own _ Y)<|rlc (.own _ Y) rln)<|.cons Y (roO ZW)<|.cons Y (roM D3)<|.cons Y (roM D4) .nil)⟩
    ·
     refine ZN<|?_
     replace h := lx h ▸ ho1
     exact ⟨_, h, ES [some 0, some 1, some 2, some 3, some 4] (hhp := .cons Y (ro1 (by exact tZ_26.symm)<|rld Y)<|.cons Y (ro1 (by exact tZ_26.symm)<|rlc (.dat Y)<|rlc (.dat Y)<|rlc (.own _ Y)<|rlc (.own _ Y)<|rlc (.own _ Y) rln)<|.cons Y (roO ZW)<|.cons Y (roM D3)<|.cons Y (roM D4) .nil)⟩
   ·
    refine Tr<|Rq Y (Qb (ov Y) Y Y Y Qu Y Y)<|Rx Y (Zh (ov Y) (ov Y) (Zu Qu Y) Y Y Y (Nat.le_of_ble_eq_true Y) (Zb Y) Y)<|Ra Y<|Za<|?_
    obtain rfl := rt h
    exact Zs<|JI [some 2, some 3, some 4] Y (.cons (.agg Y Y Y Y Qu Y Y)<|.cons (.tmp Y) .nil) (.cons Y (roO ZW)<|.cons Y (roM D3)<|.cons Y (roM D4) .nil) Y Y<|Xo<|rlc (Zcc<|rlc (.dat Y)<|rlc (.dat Y)<|rlc (.own _ Y)<|rlc (.own _ Y)<|rlc (.own _ Y) rln)<|rlc (.dat Y) rln
theorem ZbZ {n : Int} {low : Int} {high : Int} {r : Bool} (h : XX n low high = some r) :
 CSpec Tryz.prog gl0 57 [.int .i64 n, .int .i64 low, .int .i64 high] (.bool r) := by
 unfold XX at h
 replace h := Qd h
 refine So Tryz.func57 Y fun w0 A=>Tr<|Ra Y<|Za<|Tr<|Rm Y<|Rm Y<|R2 Z1 Y<|Rm Y<|Rq Y (.guarded ((decide (n < low)) == false) Y Y Y Y fun h => Zj<|ov Y)<|Rq Y (.guarded ((decide (n < low)) == false) Y Y Y Y fun h => Zj<|ov Y)<|Rq Y (.guarded ((decide (n < low)) == false) Y Y Y Y fun h => Zcu (ow Y h)<|ow Y h)<|Rq Y (ZdS (ov Y) fun hp=>ow Y<|gF hp)<|Ra Y<|Za<|?_
 obtain rfl := rt h
 exact Zs (ZQ Y (.one<|rb Y))
theorem Zbk {n : Int} {r : (List Int)} (h : ZbN n = some r) :
 GSpec Tryz.prog gl0 58 [.int .i64 n] [] (.own 0 r.length) [some ⟨5, List.map R5 r⟩] := by
 unfold ZbN at h
 replace h := Qd h
 refine Qt (by kernel_rfl) Tryz.func58 Y Y<|?_
 intro w0 A W φ0
 refine Tr<|Ra Y<|Za<|K1 0 Y<|Tr<|Rm Y<|bE h fun l h_l h=>Rx Y (Z2 [none] (r := 0) (f := R5) (z0 := 0) Y (ov Y) (ov Y) Qg Y tZ5 Y Y h_l)<|Ra Y<|Za<|I1 (fun out=>⟨[(3, .own 0 out.length)], [some ⟨5, List.map R5 out⟩]⟩) h (fun h=>?_) fun out h=>?_
 ·
  refine K1 3 Y<|Tr<|Rm Y<|Rq Y (Zdt (ov Y) Y Y Qg)<|Rm Y<|Za<|Zk<|?_
  obtain ⟨r1, hl1, ho1⟩ := QY h
  refine L2 (fun out2 i=>⟨[(3, .own 0 out2.length), (8, .int .i64 (l.length : Int)), (9, .int .i64 i)], [some ⟨5, List.map R5 out2⟩]⟩) hl1 (ES [some 0]) fun n1 out2 i h=>?_
  unfold ZaK at h
  refine Tr<|R2 Z1 Y<|Za<|Zl<|If h Y (fun h=>?_) fun h=>?_
  ·
   exact Zm<|Zl<|Zk<|K3 3 8 9 Y<|Tr<|Rm Y<|Ra Y<|Za<|K4 3 4 8 9 Y<|ZA<|Rm Y<|Rm Y<|bE h fun x h_x h=>Rq Y (XB (ov Y) (ov Y) Qg Y Y h_x)<|Rx Y (JY (u' := 255) (ov Y) (ov Y) (Zf tS5) Y Y h_x Y (Zb Y) Y)<|Za<|K3 3 8 9 Y<|ZA<|R2 ZY Y<|Rm Y<|Za<|⟨_, h, ES [some 0]<|sr 3 Y (Zfd (Eq.symm<|(List.length_set ..).trans Y) Y)<|sd 8 Y Y<|sd 9 Y Y sn⟩
  ·
   refine ZN<|?_
   replace h := lx h ▸ ho1
   exact ⟨_, h, ES [some 0]⟩
 ·
  refine Tr<|Rm Y<|Ra Y<|Za<|?_
  obtain rfl := rt h
  exact Zs<|JI [some 0] Y (.cons (.tmp Y) .nil) (.cons Y (roM D5) .nil) Y Y<|.own _ Y
theorem ZeA {sectors : Int} {slots : Int} {limit : Int} {r : api_Memory × Int} (h : Xl sectors slots limit = some r) :
 GSpec Tryz.prog gl0 11 [.int .i64 sectors, .int .i64 slots, .int .i64 limit] [] (.tuple [.agg [.int .i64 r.1.Slots, .int .i64 r.1.Limit, .own 0 r.1.Sectors.length, .own 1 r.1.Wear.length, .own 2 r.1.Bad.length], .int .i64 r.2]) [some ⟨49, List.map O49 r.1.Sectors⟩, some ⟨3, List.map R3 r.1.Wear⟩, some ⟨4, List.map R4 r.1.Bad⟩] := by
 unfold Xl at h
 replace h := Qd h
 refine Qt (by kernel_rfl) Tryz.func11 Y Y<|?_
 intro w0 A W φ0
 refine Tr<|Rx Y (ZL (row := [_, _, _, _, _]) 0 Y Q8 Y tZ_26)<|Ra Y<|Za<|Zl<|K4 0 1 2 6 Y<|Tr<|Rm Y<|bE h fun y h_y h=>Rq Y (Zq (ZbZ h_y)<|.cons (ov Y) (.b Y)<|.cons (ov Y) (.b Y)<|.cons (ov Y) (.b Y) .nil)<|Rm Y<|Rq Y (.guarded (y == false) Y Y Y Y fun h => Zj<|ov Y)<|bE h fun y2 h_y2 h=>Rq Y (.guarded (y == false) Y Y Y Y fun h => Zq (ZbZ<|gdT h_y2 h)<|.cons (ow Y h) (.b Y)<|.cons (ov Y) (.b Y)<|.cons (ov Y) (.b Y) .nil)<|Rq Y (ZdS (ov Y) fun hp=>ow Y<|gF hp)<|Rm Y<|Rq Y (.guarded ((y || y2) == false) Y Y Y Y fun h => Zj<|ov Y)<|bE h fun y3 h_y3 h=>Rq Y (.guarded ((y || y2) == false) Y Y Y Y fun h => Zq (ZbZ<|gdT h_y3 h)<|.cons (ow Y h) (.b Y)<|.cons (ov Y) (.b Y)<|.cons (ov Y) (.b Y) .nil)<|Rq Y (ZdS (ov Y) fun hp=>ow Y<|gF hp)<|Za<|K5 0 1 2 6 18 Y<|If h Y (fun h=>?_) fun h=>?_
 ·
  refine K1 6 Y<|Tr<|Rq Y (Z8 (ys := [_, _, _, _, _]) JR JS Q8 .nil Y)<|Rx Y (Zh (ov Y) (ov Y) (Zu Qu Y) Y Y Y (Nat.le_of_ble_eq_true Y) (Zb Y) Y)<|Ra Y<|Za<|?_
  obtain rfl := rt h
  exact Zs<|JI [none, none, none] Y (.cons (.agg Y Y Y Y Qu Y Y)<|.cons (.tmp Y) .nil) (.row 49<|.row 3<|.row 4 .nil) Y Y<|Xo<|rlc (Zcc<|rlc (.dat Y)<|rlc (.dat Y)<|rlc (.row Y)<|rlc (.row Y)<|rlc (.row Y) rln)<|rlc (.dat Y) rln
 ·
  refine Zm<|I2 (fun Wear Bad=>⟨[(0, .int .i64 sectors), (1, .int .i64 slots), (6, .ptr 0 1 0 0), (8, .ptr 1 1 0 0)], [some ⟨26, [[.int .i64 0, .int .i64 0, .nils, .nils, .nils]]⟩, some ⟨26, [[.int .i64 slots, .int .i64 limit, .nils, .own 2 Wear.length, .own 3 Bad.length]]⟩, some ⟨3, List.map R3 Wear⟩, some ⟨4, List.map R4 Bad⟩]⟩) h (fun h=>?_) fun Wear Bad h=>?_
  ·
   refine K4 0 1 2 6 Y<|Qj (cw := md0) (by kernel_rfl)<|ZP 0 _ Y (by kernel_rfl) Y Y (fun hp'=>Zj<|ov Y)<|ZP 1 _ Y (by kernel_rfl) Y Y (fun hp'=>Zj<|ov Y)<|ZP 2 _ Y (by kernel_rfl) Y Y (fun hp'=>Zj<|ov Y)<|ZP 4 _ Y (by kernel_rfl) Y Y (fun hp'=>Zj<|ov Y)<|bE h fun l h_l h=>bE h fun l2 h_l2 h=>Ze8 [3, 5, 7] (by kernel_rfl)<|.w Y Y Y (fun _=>Ext.app) (fun h=>by cases h) (Z2 [none] (r := 1) (f := R3) (z0 := 0) Y (ov Y) (ov Y) QH Y tZ3 Y Y h_l) ?_<|.w Y Y Y (fun _=>Ext.app) (fun h=>by cases h) (Z2 [none] (r := 1) (f := R4) (z0 := false) Y (ov Y) (ov Y) Zb0 Y tZ4 Y Y h_l2) ?_<|.w Y Y Y (fun _=>Ext.app) (fun h=>by cases h) (ZL (row := [_, _, _, _, _]) 1 Y Q8 Y tZ_26) ?_ .nil
   ·
    refine Zd8 5 7 Y Y (by kernel_rfl) Y Y Y Y (fun _=>Ext.app) (fun _=>Ext.app) (fun h=>by cases h) (fun h=>by cases h) (Z2 [none] (r := 2) (f := R4) (z0 := false) Y (ov Y) (ov Y) Zb0 Y tZ4 Y Y h_l2) (ZL (row := [_, _, _, _, _]) 2 Y Q8 Y tZ_26) ?_ ?_
    ·
     exact ZP 6 _ Y (by kernel_rfl) Y Y (fun hp'=>Z8 (ys := [_, _, _, _, _]) JR JS Q8 (.cons (cvs (ov Y)<|Zd Y)<|.cons (cvs (ov Y)<|Zd Y)<|.cons (cvs (ov Y)<|Zd Y)<|.cons (cvs (ov Y)<|Zd Y) .nil) Y)<|QA 7 _ _ Y (by kernel_rfl) Y Y (fun _=>Ext.app) (fun h=>by cases h) (ZL (row := [_, _, _, _, _]) 3 Y Q8 Y tZ_26)<|Do 8 Y (Zh (ov Y) (ov Y) (Zu Qu Y) Y Y Y (Nat.le_of_ble_eq_true Y) (Zb Y) Y)<|Dd<|⟨_, h, ES [some 0, some 3, some 1, some 2]⟩
    ·
     exact QA 5 _ _ Y (by kernel_rfl) Y Y (fun _=>Ext.app) (fun h=>by cases h) (Z2 [none] (r := 3) (f := R4) (z0 := false) Y (ov Y) (ov Y) Zb0 Y tZ4 Y Y h_l2)<|Dq 6 Y (Z8 (ys := [_, _, _, _, _]) JR JS Q8 (.cons (cvs (ov Y)<|Zd Y)<|.cons (cvs (ov Y)<|Zd Y)<|.cons (cvs (ov Y)<|Zd Y)<|.cons (cvs (ov Y)<|Zd Y) .nil) Y)<|Do 8 Y (Zh (ov Y) (ov Y) (Zu Qu Y) Y Y Y (Nat.le_of_ble_eq_true Y) (Zb Y) Y)<|Dd<|⟨_, h, ES [some 0, some 2, some 1, some 3]⟩
   ·
    refine Zd8 3 7 Y Y (by kernel_rfl) Y Y Y Y (fun _=>Ext.app) (fun _=>Ext.app) (fun h=>by cases h) (fun h=>by cases h) (Z2 [none] (r := 2) (f := R3) (z0 := 0) Y (ov Y) (ov Y) QH Y tZ3 Y Y h_l) (ZL (row := [_, _, _, _, _]) 2 Y Q8 Y tZ_26) ?_ ?_
    ·
     exact ZP 6 _ Y (by kernel_rfl) Y Y (fun hp'=>Z8 (ys := [_, _, _, _, _]) JR JS Q8 (.cons (cvs (ov Y)<|Zd Y)<|.cons (cvs (ov Y)<|Zd Y)<|.cons (cvs (ov Y)<|Zd Y)<|.cons (cvs (ov Y)<|Zd Y) .nil) Y)<|QA 7 _ _ Y (by kernel_rfl) Y Y (fun _=>Ext.app) (fun h=>by cases h) (ZL (row := [_, _, _, _, _]) 3 Y Q8 Y tZ_26)<|Do 8 Y (Zh (ov Y) (ov Y) (Zu Qu Y) Y Y Y (Nat.le_of_ble_eq_true Y) (Zb Y) Y)<|Dd<|⟨_, h, ES [some 0, some 3, some 2, some 1]⟩
    ·
     exact QA 3 _ _ Y (by kernel_rfl) Y Y (fun _=>Ext.app) (fun h=>by cases h) (Z2 [none] (r := 3) (f := R3) (z0 := 0) Y (ov Y) (ov Y) QH Y tZ3 Y Y h_l)<|Dq 6 Y (Z8 (ys := [_, _, _, _, _]) JR JS Q8 (.cons (cvs (ov Y)<|Zd Y)<|.cons (cvs (ov Y)<|Zd Y)<|.cons (cvs (ov Y)<|Zd Y)<|.cons (cvs (ov Y)<|Zd Y) .nil) Y)<|Do 8 Y (Zh (ov Y) (ov Y) (Zu Qu Y) Y Y Y (Nat.le_of_ble_eq_true Y) (Zb Y) Y)<|Dd<|⟨_, h, ES [some 0, some 2, some 3, some 1]⟩
   ·
    refine Zd8 3 5 Y Y (by kernel_rfl) Y Y Y Y (fun _=>Ext.app) (fun _=>Ext.app) (fun h=>by cases h) (fun h=>by cases h) (Z2 [none] (r := 2) (f := R3) (z0 := 0) Y (ov Y) (ov Y) QH Y tZ3 Y Y h_l) (Z2 [none] (r := 2) (f := R4) (z0 := false) Y (ov Y) (ov Y) Zb0 Y tZ4 Y Y h_l2) ?_ ?_
    ·
     exact QA 5 _ _ Y (by kernel_rfl) Y Y (fun _=>Ext.app) (fun h=>by cases h) (Z2 [none] (r := 3) (f := R4) (z0 := false) Y (ov Y) (ov Y) Zb0 Y tZ4 Y Y h_l2)<|Dq 6 Y (Z8 (ys := [_, _, _, _, _]) JR JS Q8 (.cons (cvs (ov Y)<|Zd Y)<|.cons (cvs (ov Y)<|Zd Y)<|.cons (cvs (ov Y)<|Zd Y)<|.cons (cvs (ov Y)<|Zd Y) .nil) Y)<|Do 8 Y (Zh (ov Y) (ov Y) (Zu Qu Y) Y Y Y (Nat.le_of_ble_eq_true Y) (Zb Y) Y)<|Dd<|⟨_, h, ES [some 0, some 1, some 2, some 3]⟩
    ·
     exact QA 3 _ _ Y (by kernel_rfl) Y Y (fun _=>Ext.app) (fun h=>by cases h) (Z2 [none] (r := 3) (f := R3) (z0 := 0) Y (ov Y) (ov Y) QH Y tZ3 Y Y h_l)<|Dq 6 Y (Z8 (ys := [_, _, _, _, _]) JR JS Q8 (.cons (cvs (ov Y)<|Zd Y)<|.cons (cvs (ov Y)<|Zd Y)<|.cons (cvs (ov Y)<|Zd Y)<|.cons (cvs (ov Y)<|Zd Y) .nil) Y)<|Do 8 Y (Zh (ov Y) (ov Y) (Zu Qu Y) Y Y Y (Nat.le_of_ble_eq_true Y) (Zb Y) Y)<|Dd<|⟨_, h, ES [some 0, some 1, some 3, some 2]⟩
  ·
   refine I1 (fun Sectors=>⟨[(6, .ptr 0 1 0 0), (8, .ptr 1 1 0 0)], [some ⟨26, [[.int .i64 0, .int .i64 0, .nils, .nils, .nils]]⟩, some ⟨26, [[.int .i64 slots, .int .i64 limit, .own 2 Sectors.length, .own 3 Wear.length, .own 4 Bad.length]]⟩, some ⟨49, List.map O49 Sectors⟩, some ⟨3, List.map R3 Wear⟩, some ⟨4, List.map R4 Bad⟩]⟩) h (fun h=>?_) fun Sectors h=>?_
   ·
    refine Tr<|Rm Y<|Rm Y<|Za<|Zk<|?_
    obtain ⟨r1, hl1, ho1⟩ := QY h
    refine L2 (fun Sectors2 i=>⟨[(1, .int .i64 slots), (6, .ptr 0 1 0 0), (8, .ptr 1 1 0 0), (27, .int .i64 sectors), (28, .int .i64 i)], [some ⟨26, [[.int .i64 0, .int .i64 0, .nils, .nils, .nils]]⟩, some ⟨26, [[.int .i64 slots, .int .i64 limit, .own 2 Sectors2.length, .own 3 Wear.length, .own 4 Bad.length]]⟩, some ⟨49, List.map O49 Sectors2⟩, some ⟨3, List.map R3 Wear⟩, some ⟨4, List.map R4 Bad⟩]⟩) hl1 (ES [some 0, some 1, none, some 2, some 3]) fun n1 Sectors2 i h=>?_
    unfold ZaA at h
    refine Tr<|R2 Z1 Y<|Za<|Zl<|If h Y (fun h=>?_) fun h=>?_
    ·
     refine Zm<|I1 (fun Sectors3=>⟨[(1, .int .i64 slots), (6, .ptr 0 1 0 0), (8, .ptr 1 1 0 0), (27, .int .i64 sectors), (28, .int .i64 i)], [some ⟨26, [[.int .i64 0, .int .i64 0, .nils, .nils, .nils]]⟩, some ⟨26, [[.int .i64 slots, .int .i64 limit, .own 2 Sectors3.length, .own 3 Wear.length, .own 4 Bad.length]]⟩, some ⟨49, List.map O49 Sectors3⟩, some ⟨3, List.map R3 Wear⟩, some ⟨4, List.map R4 Bad⟩]⟩) h (fun h=>?_) fun Sectors3 h=>?_
     ·
      refine Zk<|K5 1 6 8 27 28 Y<|Qj (cw := ⟨true, false, [], [], []⟩) (by kernel_rfl)<|D1 2 Zj Y<|D2 3 Zft Y<|D2 4 ZY Y<|bE h fun y4 h_y4 h=>Dw 0 5 Y (Zg (ov Y) Y Y Zp) (Zv [] (Zbk h_y4) (.cons (ov Y) (.dat Y) .nil) .nil Y (.keep Y Y<|.keep Y Y<|.keep Y Y<|.keep Y Y<|.keep Y Y<|.lent 0 (.inr ⟨Nat.le_of_ble_eq_true Y, Y⟩) Y (roM D5) .nil) Y Y<|.own _<|.inr ⟨Nat.le_of_ble_eq_true Y, Y⟩) ?_ ?_
      ·
       refine Dw 1 5 Y (Zo (ov Y) Y Y Y ZD Y) (Zv [] (Zbk h_y4) (.cons (ov Y) (.dat Y) .nil) .nil Y (.keep Y Y<|.keep Y Y<|.keep Y Y<|.keep Y Y<|.keep Y Y<|.lent 0 (.inr ⟨Nat.le_of_ble_eq_true Y, Y⟩) Y (roM D5) .nil) Y Y<|.own _<|.inr ⟨Nat.le_of_ble_eq_true Y, Y⟩) ?_ ?_
       ·
        exact Do 5 Y (Zv [] (Zbk h_y4) (.cons (ov Y) (.dat Y) .nil) .nil Y (.keep Y Y<|.keep Y Y<|.keep Y Y<|.keep Y Y<|.keep Y Y<|.lent 0 (.inr ⟨Nat.le_of_ble_eq_true Y, Y⟩) Y (roM D5) .nil) Y Y<|.own _<|.inr ⟨Nat.le_of_ble_eq_true Y, Y⟩)<|Do 6 Y (ZE (r := 6) Y Zz (.cons (cvs (ov Y)<|Zd Y) Y .nil) Y Y)<|bE h fun l3 h_l3 h=>Do 7 Y (Zn (f := O49) (ov Y) (Zw (o := ⟨49, [[.own 5 y4.length]]⟩) (ov Y) Y Y tZ_49) Zz Y Y (Zb Y) Y h_l3)<|Dq 8 Y (Zg (ov Y) Y Y Zp)<|Do 9 Y (Zh (ov Y) (ov Y) (Zf ZD) Y Y Y (Nat.le_of_ble_eq_true Y) (Zb Y) Y)<|Zx (by kernel_rfl) (Ent.trans (Ent.absorbH (r := 2) (j := 0) (q := 5) Y (Ze h_l3) Y Y (List.length_map ..) Y)<|Ent.closeS (r := 2) Y (Ze h_l3) Y)<|⟨_, h, ES [some 0, some 1, some 2, some 3, some 4] (hhp := .cons Y (ro1 (by exact tZ_26.symm)<|rld Y)<|.cons Y (ro1 (by exact tZ_26.symm)<|rlc (.dat Y)<|rlc (.dat Y)<|rlc (.own _ Y)<|rlc (.own _ Y)<|rlc (.own _ Y) rln)<|.cons Y (roO ZW)<|.cons Y (roM D3)<|.cons Y (roM D4) .nil)⟩
       ·
        refine Dw 1 6 Y (Zo (ov Y) Y Y Y ZD Y) (ZE (r := 6) Y Zz (.cons (cvs (ov Y)<|Zd Y) Y .nil) Y Y) ?_ ?_
        ·
         exact Do 6 Y (ZE (r := 6) Y Zz (.cons (cvs (ov Y)<|Zd Y) Y .nil) Y Y)<|bE h fun l3 h_l3 h=>Do 7 Y (Zn (f := O49) (ov Y) (Zw (o := ⟨49, [[.own 5 y4.length]]⟩) (ov Y) Y Y tZ_49) Zz Y Y (Zb Y) Y h_l3)<|Dq 8 Y (Zg (ov Y) Y Y Zp)<|Do 9 Y (Zh (ov Y) (ov Y) (Zf ZD) Y Y Y (Nat.le_of_ble_eq_true Y) (Zb Y) Y)<|Zx (by kernel_rfl) (Ent.trans (Ent.absorbH (r := 2) (j := 0) (q := 5) Y (Ze h_l3) Y Y (List.length_map ..) Y)<|Ent.closeS (r := 2) Y (Ze h_l3) Y)<|⟨_, h, ES [some 0, some 1, some 2, some 3, some 4] (hhp := .cons Y (ro1 (by exact tZ_26.symm)<|rld Y)<|.cons Y (ro1 (by exact tZ_26.symm)<|rlc (.dat Y)<|rlc (.dat Y)<|rlc (.own _ Y)<|rlc (.own _ Y)<|rlc (.own _ Y) rln)<|.cons Y (roO ZW)<|.cons Y (roM D3)<|.cons Y (roM D4) .nil)⟩
        ·
         exact Dq 1 Y (Zo (ov Y) Y Y Y ZD Y)<|bE h fun l3 h_l3 h=>Do 7 Y (Zn (f := O49) (ov Y) (Zw (o := ⟨49, [[.own 5 y4.length]]⟩) (ov Y) Y Y tZ_49) Zz Y Y (Zb Y) Y h_l3)<|Dq 8 Y (Zg (ov Y) Y Y Zp)<|Do 9 Y (Zh (ov Y) (ov Y) (Zf ZD) Y Y Y (Nat.le_of_ble_eq_true Y) (Zb Y) Y)<|Zx (by kernel_rfl) (Ent.trans (Ent.absorbH (r := 2) (j := 0) (q := 5) Y (Ze h_l3) Y Y (List.length_map ..) Y)<|Ent.closeS (r := 2) Y (Ze h_l3) Y)<|⟨_, h, ES [some 0, some 1, some 2, some 3, some 4] (hhp := .cons Y (ro1 (by exact tZ_26.symm)<|rld Y)<|.cons Y (ro1 (by exact tZ_26.symm)<|rlc (.dat Y)<|rlc (.dat Y)<|rlc (.own _ Y)<|rlc (.own _ Y)<|rlc (.own _ Y) rln)<|.cons Y (roO ZW)<|.cons Y (roM D3)<|.cons Y (roM D4) .nil)⟩
      ·
       refine Dw 0 6 Y (Zg (ov Y) Y Y Zp) (ZE (r := 6) Y Zz (.cons (cvs (ov Y)<|Zd Y) Y .nil) Y Y) ?_ ?_
       ·
        refine Dw 1 6 Y (Zo (ov Y) Y Y Y ZD Y) (ZE (r := 6) Y Zz (.cons (cvs (ov Y)<|Zd Y) Y .nil) Y Y) ?_ ?_
        ·
         exact Do 6 Y (ZE (r := 6) Y Zz (.cons (cvs (ov Y)<|Zd Y) Y .nil) Y Y)<|bE h fun l3 h_l3 h=>Do 7 Y (Zn (f := O49) (ov Y) (Zw (o := ⟨49, [[.own 5 y4.length]]⟩) (ov Y) Y Y tZ_49) Zz Y Y (Zb Y) Y h_l3)<|Dq 8 Y (Zg (ov Y) Y Y Zp)<|Do 9 Y (Zh (ov Y) (ov Y) (Zf ZD) Y Y Y (Nat.le_of_ble_eq_true Y) (Zb Y) Y)<|Zx (by kernel_rfl) (Ent.trans (Ent.absorbH (r := 2) (j := 0) (q := 5) Y (Ze h_l3) Y Y (List.length_map ..) Y)<|Ent.closeS (r := 2) Y (Ze h_l3) Y)<|⟨_, h, ES [some 0, some 1, some 2, some 3, some 4] (hhp := .cons Y (ro1 (by exact tZ_26.symm)<|rld Y)<|.cons Y (ro1 (by exact tZ_26.symm)<|rlc (.dat Y)<|rlc (.dat Y)<|rlc (.own _ Y)<|rlc (.own _ Y)<|rlc (.own _ Y) rln)<|.cons Y (roO ZW)<|.cons Y (roM D3)<|.cons Y (roM D4) .nil)⟩
        ·
         exact Dq 1 Y (Zo (ov Y) Y Y Y ZD Y)<|bE h fun l3 h_l3 h=>Do 7 Y (Zn (f := O49) (ov Y) (Zw (o := ⟨49, [[.own 5 y4.length]]⟩) (ov Y) Y Y tZ_49) Zz Y Y (Zb Y) Y h_l3)<|Dq 8 Y (Zg (ov Y) Y Y Zp)<|Do 9 Y (Zh (ov Y) (ov Y) (Zf ZD) Y Y Y (Nat.le_of_ble_eq_true Y) (Zb Y) Y)<|Zx (by kernel_rfl) (Ent.trans (Ent.absorbH (r := 2) (j := 0) (q := 5) Y (Ze h_l3) Y Y (List.length_map ..) Y)<|Ent.closeS (r := 2) Y (Ze h_l3) Y)<|⟨_, h, ES [some 0, some 1, some 2, some 3, some 4] (hhp := .cons Y (ro1 (by exact tZ_26.symm)<|rld Y)<|.cons Y (ro1 (by exact tZ_26.symm)<|rlc (.dat Y)<|rlc (.dat Y)<|rlc (.own _ Y)<|rlc (.own _ Y)<|rlc (.own _ Y) rln)<|.cons Y (roO ZW)<|.cons Y (roM D3)<|.cons Y (roM D4) .nil)⟩
       ·
        exact Dq 0 Y (Zg (ov Y) Y Y Zp)<|Dq 1 Y (Zo (ov Y) Y Y Y ZD Y)<|bE h fun l3 h_l3 h=>Do 7 Y (Zn (f := O49) (ov Y) (Zw (o := ⟨49, [[.own 5 y4.length]]⟩) (ov Y) Y Y tZ_49) Zz Y Y (Zb Y) Y h_l3)<|Dq 8 Y (Zg (ov Y) Y Y Zp)<|Do 9 Y (Zh (ov Y) (ov Y) (Zf ZD) Y Y Y (Nat.le_of_ble_eq_true Y) (Zb Y) Y)<|Zx (by kernel_rfl) (Ent.trans (Ent.absorbH (r := 2) (j := 0) (q := 5) Y (Ze h_l3) Y Y (List.length_map ..) Y)<|Ent.closeS (r := 2) Y (Ze h_l3) Y)<|⟨_, h, ES [some 0, some 1, some 2, some 3, some 4] (hhp := .cons Y (ro1 (by exact tZ_26.symm)<|rld Y)<|.cons Y (ro1 (by exact tZ_26.symm)<|rlc (.dat Y)<|rlc (.dat Y)<|rlc (.own _ Y)<|rlc (.own _ Y)<|rlc (.own _ Y) rln)<|.cons Y (roO ZW)<|.cons Y (roM D3)<|.cons Y (roM D4) .nil)⟩
     ·
      exact ZA<|R2 ZY Y<|Rm Y<|Za<|⟨_, h, ES [some 0, some 1, some 2, some 3, some 4] (hhp := .cons Y (ro1 (by exact tZ_26.symm)<|rld Y)<|.cons Y (ro1 (by exact tZ_26.symm)<|rlc (.dat Y)<|rlc (.dat Y)<|rlc (.own _ Y)<|rlc (.own _ Y)<|rlc (.own _ Y) rln)<|.cons Y (roO ZW)<|.cons Y (roM D3)<|.cons Y (roM D4) .nil)⟩
    ·
     refine ZN<|?_
     replace h := lx h ▸ ho1
     exact ⟨_, h, ES [some 0, some 1, some 2, some 3, some 4] (hhp := .cons Y (ro1 (by exact tZ_26.symm)<|rld Y)<|.cons Y (ro1 (by exact tZ_26.symm)<|rlc (.dat Y)<|rlc (.dat Y)<|rlc (.own _ Y)<|rlc (.own _ Y)<|rlc (.own _ Y) rln)<|.cons Y (roO ZW)<|.cons Y (roM D3)<|.cons Y (roM D4) .nil)⟩
   ·
    refine Tr<|Rq Y (Qb (ov Y) Y Y Y Qu Y Y)<|Rx Y (Zh (ov Y) (ov Y) (Zu Qu Y) Y Y Y (Nat.le_of_ble_eq_true Y) (Zb Y) Y)<|Ra Y<|Za<|?_
    obtain rfl := rt h
    exact Zs<|JI [some 2, some 3, some 4] Y (.cons (.agg Y Y Y Y Qu Y Y)<|.cons (.tmp Y) .nil) (.cons Y (roO ZW)<|.cons Y (roM D3)<|.cons Y (roM D4) .nil) Y Y<|Xo<|rlc (Zcc<|rlc (.dat Y)<|rlc (.dat Y)<|rlc (.own _ Y)<|rlc (.own _ Y)<|rlc (.own _ Y) rln)<|rlc (.dat Y) rln
theorem Jl {s1 : List (List Int)} {s2 : List (List Int)} {eq : (List Int) → (List Int) → Option Bool} {r : Bool} {eq_f : FuncId} {eq_c : List AV} (eq_d : eq_c.all datB = true) (eq_h : ∀ (z0 : List Int) (z1 : List Int) z, eq z0 z1 = some z → CSpec Tryz.prog gl0 eq_f ([.sl 5 (List.map R5 z0), .sl 5 (List.map R5 z1)] ++ eq_c) (.bool z)) (h : ZS s1 s2 eq = some r) :
 CSpec Tryz.prog gl0 59 [.sl 49 (List.map R49 s1), .sl 49 (List.map R49 s2), .fn eq_f eq_c] (.bool r) := by
 unfold ZS at h
 replace h := Qd h
 refine So Tryz.func59 Y fun w0 A=>Tr<|Ra Y<|Za<|Zl<|K3 0 1 2 Y<|Tr<|Rm Y<|Rl tZ_49 Zz Y<|Rm Y<|Rl tZ_49 Zz Y<|R2 XK Y<|Za<|K4 0 1 2 14 Y<|If h Y (fun h=>?_) fun h=>?_
 ·
  refine K0<|Tr<|Ra Y<|Za<|?_
  obtain rfl := rt h
  exact Zs (ZQ Y (.one<|rb Y))
 ·
  refine Zm<|J0 (fun j => (.inr j)) ⟨[], []⟩ h (fun h=>?_) fun h=>?_
  ·
   refine K3 0 1 2 Y<|Tr<|Rm Y<|Rl tZ_49 Zz Y<|Rm Y<|Za<|Zk<|?_
   obtain ⟨r1, hl1, ho1⟩ := QY h
   refine L1 (fun i=>⟨[(1, .sl 49 (List.map R49 s2)), (2, .fn eq_f eq_c), (15, .sl 49 (List.map R49 s1)), (16, .int .i64 (s1.length : Int)), (17, .int .i64 i)], []⟩) hl1 (ES []<|sd 1 Y Y<|sr 2 Y (rFn<|rld eq_d)<|sd 15 Y Y<|sd 16 Y Y<|sd 17 Y Y sn) fun n1 i h=>?_
   unfold ZX at h
   refine Tr<|R2 Z1 Y<|Za<|Zl<|If h Y (fun h=>?_) fun h=>?_
   ·
    refine Zm<|Zl<|Zk<|K5 1 2 15 16 17 Y<|Tr<|Rm Y<|bE h fun x h_x h=>Rq Y (Z4 (ov Y) (ov Y) Zz h_x)<|Rq Y (Zi (ov Y) Zfl Y)<|Ra Y<|Ra Y<|Za<|K7 1 2 7 8 15 16 17 Y<|Tr<|Rm Y<|Rm Y<|bE h fun x2 h_x2 h=>Rq Y (Z4 (ov Y) (ov Y) Zz h_x2)<|Rq Y (Zi (ov Y) Zfl Y)<|Ra Y<|Za<|K7 1 2 8 9 15 16 17 Y<|Tr<|Rm Y<|Rm Y<|Rm Y<|bE h fun y h_y h=>Rq Y (Zfn (ov Y) eq_d (eq_h _ _ _ h_y)<|.cons (ov Y) (.b Y)<|.cons (ov Y) (.b Y) .nil)<|R1 XU Y<|Za<|K6 1 2 15 16 17 30 Y<|If h Y (fun h=>?_) fun h=>?_
    ·
     refine K0<|Tr<|Ra Y<|Za<|?_
     replace h := lx h ▸ ho1
     obtain rfl := rt h
     exact Zs (ZQ Y (.one<|rb Y))
    ·
     exact Zm<|K5 1 2 15 16 17 Y<|ZA<|R2 ZY Y<|Rm Y<|Za<|⟨_, h, ES []<|sd 1 Y Y<|sr 2 Y (rFn<|rld eq_d)<|sd 15 Y Y<|sd 16 Y Y<|sd 17 Y Y sn⟩
   ·
    refine ZN<|?_
    replace h := lx h ▸ ho1
    exact ⟨(), h, ES []⟩
  ·
   replace h := elr h
   replace h := t0i h
   refine Tr<|Ra Y<|Za<|?_
   obtain rfl := rt h
   exact Zs (ZQ Y (.one<|rb Y))
theorem ZgR {a : List Int} {b : List Int} {r : Bool} (h : ZbT a b = some r) :
 CSpec Tryz.prog gl0 22 [.sl 5 (List.map R5 a), .sl 5 (List.map R5 b)] (.bool r) := by
 unfold ZbT at h
 replace h := Qd h
 refine So Tryz.func22 Y fun w0 A=>Tr<|Ra Y<|Za<|Tr<|Rm Y<|Rq Y (ZiW (f := R5) (QX (ov Y) tZ_5) (fun _=>Y) Qg Zi4 Zlq)<|Rm Y<|Rq Y (ZiW (f := R5) (QX (ov Y) tZ_5) (fun _=>Y) Qg Zi4 Zlq)<|R2 Zkk Y<|Ra Y<|Za<|?_
 obtain rfl := rt h
 exact Zs (ZQ Y (.one<|rb Y))
theorem Zda {s1 : List Int} {s2 : List Int} {r : Bool} (h : QU s1 s2 = some r) :
 CSpec Tryz.prog gl0 38 [.sl 3 (List.map R3 s1), .sl 3 (List.map R3 s2)] (.bool r) := by
 unfold QU at h
 replace h := Qd h
 refine So Tryz.func38 Y fun w0 A=>Tr<|Ra Y<|Za<|Zl<|K2 0 1 Y<|Tr<|Rm Y<|Rl tZ_3 QH Y<|Rm Y<|Rl tZ_3 QH Y<|R2 XK Y<|Za<|K3 0 1 10 Y<|If h Y (fun h=>?_) fun h=>?_
 ·
  refine K0<|Tr<|Ra Y<|Za<|?_
  obtain rfl := rt h
  exact Zs (ZQ Y (.one<|rb Y))
 ·
  refine Zm<|J0 (fun j => (.inr j)) ⟨[], []⟩ h (fun h=>?_) fun h=>?_
  ·
   refine K2 0 1 Y<|Tr<|Rm Y<|Rl tZ_3 QH Y<|Rm Y<|Za<|Zk<|?_
   obtain ⟨r1, hl1, ho1⟩ := QY h
   refine L1 (fun i=>⟨[(0, .sl 3 (List.map R3 s1)), (1, .sl 3 (List.map R3 s2)), (12, .int .i64 (s1.length : Int)), (13, .int .i64 i)], []⟩) hl1 (ES []) fun n1 i h=>?_
   unfold QZ at h
   refine Tr<|R2 Z1 Y<|Za<|Zl<|If h Y (fun h=>?_) fun h=>?_
   ·
    refine Zm<|Zl<|Zk<|K4 0 1 12 13 Y<|Tr<|Rm Y<|Ra Y<|Za<|Zl<|K5 0 1 5 12 13 Y<|Qj (cw := md0) (by kernel_rfl)<|D1 0 Zj Y<|D1 1 Zj Y<|bE h fun x h_x h=>Dq 2 Y (Z4 (ov Y) (ov Y) QH h_x)<|Dq 3 Y (Zi (ov Y) tS3 Y)<|D1 4 Zj Y<|D1 5 Zj Y<|bE h fun x2 h_x2 h=>Dq 6 Y (Z4 (ov Y) (ov Y) QH h_x2)<|Dq 7 Y (Zi (ov Y) tS3 Y)<|D2 8 XK Y<|Dd<|K5 0 1 12 13 24 Y<|If h Y (fun h=>?_) fun h=>?_
    ·
     refine K0<|Tr<|Ra Y<|Za<|?_
     replace h := lx h ▸ ho1
     obtain rfl := rt h
     exact Zs (ZQ Y (.one<|rb Y))
    ·
     exact Zm<|K4 0 1 12 13 Y<|ZA<|R2 ZY Y<|Rm Y<|Za<|⟨_, h, ES []⟩
   ·
    refine ZN<|?_
    replace h := lx h ▸ ho1
    exact ⟨(), h, ES []⟩
  ·
   replace h := elr h
   replace h := t0i h
   refine Tr<|Ra Y<|Za<|?_
   obtain rfl := rt h
   exact Zs (ZQ Y (.one<|rb Y))
theorem ZcL {s1 : List Bool} {s2 : List Bool} {r : Bool} (h : Qy s1 s2 = some r) :
 CSpec Tryz.prog gl0 60 [.sl 4 (List.map R4 s1), .sl 4 (List.map R4 s2)] (.bool r) := by
 unfold Qy at h
 replace h := Qd h
 refine So Tryz.func60 Y fun w0 A=>Tr<|Ra Y<|Za<|Zl<|K2 0 1 Y<|Tr<|Rm Y<|Rl tZ_4 Zb0 Y<|Rm Y<|Rl tZ_4 Zb0 Y<|R2 XK Y<|Za<|K3 0 1 10 Y<|If h Y (fun h=>?_) fun h=>?_
 ·
  refine K0<|Tr<|Ra Y<|Za<|?_
  obtain rfl := rt h
  exact Zs (ZQ Y (.one<|rb Y))
 ·
  refine Zm<|J0 (fun j => (.inr j)) ⟨[], []⟩ h (fun h=>?_) fun h=>?_
  ·
   refine K2 0 1 Y<|Tr<|Rm Y<|Rl tZ_4 Zb0 Y<|Rm Y<|Za<|Zk<|?_
   obtain ⟨r1, hl1, ho1⟩ := QY h
   refine L1 (fun i=>⟨[(0, .sl 4 (List.map R4 s1)), (1, .sl 4 (List.map R4 s2)), (12, .int .i64 (s1.length : Int)), (13, .int .i64 i)], []⟩) hl1 (ES []) fun n1 i h=>?_
   unfold QJ at h
   refine Tr<|R2 Z1 Y<|Za<|Zl<|If h Y (fun h=>?_) fun h=>?_
   ·
    refine Zm<|Zl<|Zk<|K4 0 1 12 13 Y<|Tr<|Rm Y<|Ra Y<|Za<|Zl<|K5 0 1 5 12 13 Y<|Qj (cw := md0) (by kernel_rfl)<|D1 0 Zj Y<|D1 1 Zj Y<|bE h fun x h_x h=>Dq 2 Y (Z4 (ov Y) (ov Y) Zb0 h_x)<|Dq 3 Y (Zi (ov Y) tS4 Y)<|D1 4 Zj Y<|D1 5 Zj Y<|bE h fun x2 h_x2 h=>Dq 6 Y (Z4 (ov Y) (ov Y) Zb0 h_x2)<|Dq 7 Y (Zi (ov Y) tS4 Y)<|Dq 8 Y (Zh8 .neq (by simp) (ov Y) (ov Y) tB4)<|Dd<|K5 0 1 12 13 24 Y<|If h Y (fun h=>?_) fun h=>?_
    ·
     refine K0<|Tr<|Ra Y<|Za<|?_
     replace h := lx h ▸ ho1
     obtain rfl := rt h
     exact Zs (ZQ Y (.one<|rb Y))
    ·
     exact Zm<|K4 0 1 12 13 Y<|ZA<|R2 ZY Y<|Rm Y<|Za<|⟨_, h, ES []⟩
   ·
    refine ZN<|?_
    replace h := lx h ▸ ho1
    exact ⟨(), h, ES []⟩
  ·
   replace h := elr h
   replace h := t0i h
   refine Tr<|Ra Y<|Za<|?_
   obtain rfl := rt h
   exact Zs (ZQ Y (.one<|rb Y))
theorem Ze2 {a : api_Memory} {b : api_Memory} {r : Bool} (h : X8 a b = some r) :
 CSpec Tryz.prog gl0 12 [.agg [.int .i64 a.Slots, .int .i64 a.Limit, .sl 49 (List.map R49 a.Sectors), .sl 3 (List.map R3 a.Wear), .sl 4 (List.map R4 a.Bad)], .agg [.int .i64 b.Slots, .int .i64 b.Limit, .sl 49 (List.map R49 b.Sectors), .sl 3 (List.map R3 b.Wear), .sl 4 (List.map R4 b.Bad)]] (.bool r) := by
 unfold X8 at h
 replace h := Qd h
 refine So Tryz.func12 Y fun w0 A=>Tr<|Rq Y (ZbY (cva<|ov Y) Y tZ_26 Y)<|Rq Y (ZbY (cva<|ov Y) Y tZ_26 Y)<|Ra Y<|Za<|K3 2 3 4 Y<|Tr<|Rq Y (ZM (ov Y) Ze3)<|Rq Y (Zi (ov Y) tS3 Y)<|Rq Y (ZM (ov Y) Ze3)<|Rq Y (Zi (ov Y) tS3 Y)<|R2 Zbg Y<|Rm Y<|Rq Y (.guarded ((decide (a.Slots = b.Slots)) == true) Y Y Y Y fun h => ZM (ov Y) ZgO)<|Rq Y (.guarded ((decide (a.Slots = b.Slots)) == true) Y Y Y Y fun h => Zi (ow Y h) tS3 Y)<|Rq Y (.guarded ((decide (a.Slots = b.Slots)) == true) Y Y Y Y fun h => ZM (ov Y) ZgO)<|Rq Y (.guarded ((decide (a.Slots = b.Slots)) == true) Y Y Y Y fun h => Zi (ow Y h) tS3 Y)<|Rq Y (.guarded ((decide (a.Slots = b.Slots)) == true) Y Y Y Y fun h => Zbg (ow Y h)<|ow Y h)<|Rq Y (ZaX (ov Y) fun hp=>ow Y<|gT hp)<|Rm Y<|Rq Y (.guarded (((decide (a.Slots = b.Slots)) && (decide (a.Limit = b.Limit))) == true) Y Y Y Y fun h => ZM (ov Y) Zp)<|Rq Y (.guarded (((decide (a.Slots = b.Slots)) && (decide (a.Limit = b.Limit))) == true) Y Y Y Y fun h => Zi (ow Y h) ZD Y)<|Rq Y (.guarded (((decide (a.Slots = b.Slots)) && (decide (a.Limit = b.Limit))) == true) Y Y Y Y fun h => ZM (ov Y) Zp)<|Rq Y (.guarded (((decide (a.Slots = b.Slots)) && (decide (a.Limit = b.Limit))) == true) Y Y Y Y fun h => Zi (ow Y h) ZD Y)<|bE h fun y h_y h=>Rq Y (.guarded (((decide (a.Slots = b.Slots)) && (decide (a.Limit = b.Limit))) == true) Y Y Y Y fun h => Zq (Jl Y (fun z0 z1 _ hz=>ZgR hz)<|gdT h_y h)<|.cons (ow Y h) (.b Y)<|.cons (ow Y h) (.b Y)<|.cons (ov Y) .fn .nil)<|Rq Y (ZaX (ov Y) fun hp=>ow Y<|gT hp)<|Rm Y<|Rq Y (.guarded ((((decide (a.Slots = b.Slots)) && (decide (a.Limit = b.Limit))) && y) == true) Y Y Y Y fun h => ZM (ov Y) Zdy)<|Rq Y (.guarded ((((decide (a.Slots = b.Slots)) && (decide (a.Limit = b.Limit))) && y) == true) Y Y Y Y fun h => Zi (ow Y h) Zh4 Y)<|Rq Y (.guarded ((((decide (a.Slots = b.Slots)) && (decide (a.Limit = b.Limit))) && y) == true) Y Y Y Y fun h => ZM (ov Y) Zdy)<|Rq Y (.guarded ((((decide (a.Slots = b.Slots)) && (decide (a.Limit = b.Limit))) && y) == true) Y Y Y Y fun h => Zi (ow Y h) Zh4 Y)<|bE h fun y2 h_y2 h=>Rq Y (.guarded ((((decide (a.Slots = b.Slots)) && (decide (a.Limit = b.Limit))) && y) == true) Y Y Y Y fun h => Zq (Zda<|gdT h_y2 h)<|.cons (ow Y h) (.b Y)<|.cons (ow Y h) (.b Y) .nil)<|Rq Y (ZaX (ov Y) fun hp=>ow Y<|gT hp)<|Rm Y<|Rq Y (.guarded (((((decide (a.Slots = b.Slots)) && (decide (a.Limit = b.Limit))) && y) && y2) == true) Y Y Y Y fun h => ZM (ov Y) Zd1)<|Rq Y (.guarded (((((decide (a.Slots = b.Slots)) && (decide (a.Limit = b.Limit))) && y) && y2) == true) Y Y Y Y fun h => Zi (ow Y h) ZhO Y)<|Rq Y (.guarded (((((decide (a.Slots = b.Slots)) && (decide (a.Limit = b.Limit))) && y) && y2) == true) Y Y Y Y fun h => ZM (ov Y) Zd1)<|Rq Y (.guarded (((((decide (a.Slots = b.Slots)) && (decide (a.Limit = b.Limit))) && y) && y2) == true) Y Y Y Y fun h => Zi (ow Y h) ZhO Y)<|bE h fun y3 h_y3 h=>Rq Y (.guarded (((((decide (a.Slots = b.Slots)) && (decide (a.Limit = b.Limit))) && y) && y2) == true) Y Y Y Y fun h => Zq (ZcL<|gdT h_y3 h)<|.cons (ow Y h) (.b Y)<|.cons (ow Y h) (.b Y) .nil)<|Rq Y (ZaX (ov Y) fun hp=>ow Y<|gT hp)<|Ra Y<|Za<|?_
 obtain rfl := rt h
 exact Zs (ZQ Y (.one<|rb Y))
theorem Ziw {n : Int} {r : Bool} (h : Zd3 n = some r) :
 CSpec Tryz.prog gl0 151 [.int .i64 n] (.bool r) := by
 unfold Zd3 at h
 replace h := Qd h
 refine So Tryz.func151 Y fun w0 A=>Tr<|Ra Y<|Za<|K1 0 Y<|Tr<|Ra Y<|Za<|I1 (fun ones=>⟨[(3, .int .i64 ones)], []⟩) h (fun h=>?_) fun ones h=>?_
 ·
  refine Zk<|?_
  obtain ⟨r1, hl1, ho1⟩ := QY h
  refine L2 (fun n2 ones2=>⟨[(0, .int .i64 n2), (3, .int .i64 ones2)], []⟩) hl1 (ES []) fun n1 n2 ones2 h=>?_
  unfold ZcV at h
  refine Zl<|Tr<|Rm Y<|R2 Zcu Y<|Za<|K3 0 3 5 Y<|If h Y (fun h=>?_) fun h=>?_
  ·
   exact Zm<|Zl<|Zk<|K2 0 3 Y<|ZA<|Rm Y<|Rm Y<|bE h fun q h_q h=>Rq Y (JM (ov Y) (ov Y) h_q)<|R2 ZY Y<|Ra Y<|Za<|K2 0 3 Y<|ZA<|Rm Y<|bE h fun q2 h_q2 h=>Rq Y (Zfe (ov Y) (ov Y) h_q2)<|Ra Y<|Za<|⟨_, h, ES []⟩
  ·
   refine ZN<|?_
   replace h := lx h ▸ ho1
   exact ⟨_, h, ES []⟩
 ·
  refine Tr<|Rm Y<|bE h fun q3 h_q3 h=>Rq Y (JM (ov Y) (ov Y) h_q3)<|R2 Zbg Y<|Ra Y<|Za<|?_
  obtain rfl := rt h
  exact Zs (ZQ Y (.one<|rb Y))
end Go.Proofs.YtnlmjeleocelgaaGreatDoor
