/- A text of the proof: a verified executor of the program form, or the contracts of the functions that the law reaches. -/
import Derived.Test.YtgohgnaapbpggaaGreatDoorVT
import Derived.Test.YtgohgnaapbpggaaGreatDoorPA
import Derived.Test.YtgohgnaapbpggaaGreatDoorShT
import Derived.Test.YtgohgnaapbpggaaGreatDoorProg
import Derived.Test.YtgohgnaapbpggaaGreatDoorLayZ
set_option linter.all false
namespace Go.Proofs.YtgohgnaapbpggaaGreatDoor
open Go Go.Vx
set_option maxRecDepth 10000
set_option maxHeartbeats 1000000
set_option linter.unusedVariables false
theorem tZ_5 : Tryz.prog.cellsOf 5 = 1 := by kernel_rfl
instance : SzD Tryz.prog 5 1 := ⟨tZ_5⟩
theorem ZL : tSl Tryz.prog 22 5 1 1 = true := by kernel_rfl
theorem tS5 : tScal Tryz.prog 5 = true := by kernel_rfl
theorem tB4 : (match Tryz.prog.underlying 4 with | some .bool => true | _ => false) = true := by kernel_rfl
theorem Zms : tU8 Tryz.prog 5 = true := by kernel_rfl
theorem ZjZ : tStr Tryz.prog 9 = true := by kernel_rfl
theorem tZ5 : XR Tryz.prog 5 = some [.int .u8 0] := by kernel_rfl
theorem tZ_3 : Tryz.prog.cellsOf 3 = 1 := by kernel_rfl
instance : SzD Tryz.prog 3 1 := ⟨tZ_3⟩
theorem QK : tSl Tryz.prog 56 3 1 8 = true := by kernel_rfl
theorem tZ3 : XR Tryz.prog 3 = some [.int .i64 0] := by kernel_rfl
theorem Zgm : XR Tryz.prog 46 = some [.int .u16 0, .int .u16 0, .int .u16 0, .int .u16 0, .int .u16 0, .int .u16 0, .int .u16 0, .int .u16 0, .int .u16 0, .int .u16 0, .int .u16 0, .int .u16 0, .int .u16 0, .int .u16 0, .int .u16 0, .int .u16 0, .int .u16 0, .int .u16 0, .int .u16 0, .int .u16 0, .int .u16 0, .int .u16 0, .int .u16 0, .int .u16 0, .int .u16 0, .int .u16 0, .int .u16 0, .int .u16 0, .int .u16 0, .int .u16 0, .int .u16 0, .int .u16 0, .int .u16 0, .int .u16 0, .int .u16 0, .int .u16 0, .int .u16 0, .int .u16 0, .int .u16 0, .int .u16 0, .int .u16 0, .int .u16 0, .int .u16 0, .int .u16 0, .int .u16 0, .int .u16 0, .int .u16 0, .int .u16 0, .int .u16 0, .int .u16 0, .int .u16 0, .int .u16 0, .int .u16 0, .int .u16 0, .int .u16 0, .int .u16 0, .int .u16 0, .int .u16 0, .int .u16 0, .int .u16 0, .int .u16 0, .int .u16 0, .int .u16 0, .int .u16 0] := by kernel_rfl
theorem tZ_46 : Tryz.prog.cellsOf 46 = 64 := by kernel_rfl
instance : SzD Tryz.prog 46 64 := ⟨tZ_46⟩
theorem Zan : tArr Tryz.prog 46 64 44 1 = true := by kernel_rfl
theorem X8 : tAgg Tryz.prog 46 64 = true := by kernel_rfl
theorem tI3 : tInt Tryz.prog 3 .i64 = true := by kernel_rfl
theorem Zda : tInt Tryz.prog 44 .u16 = true := by kernel_rfl
theorem Zbb : tScal Tryz.prog 44 = true := by kernel_rfl
theorem tS3 : tScal Tryz.prog 3 = true := by kernel_rfl
theorem Zlz : tArr Tryz.prog 163 4 3 1 = true := by kernel_rfl
theorem Zmp : XR Tryz.prog 163 = some [.int .i64 0, .int .i64 0, .int .i64 0, .int .i64 0] := by kernel_rfl
theorem Zdx : XR Tryz.prog 59 = some [.int .i64 0, .int .i64 0, .slice none 0 0, .slice none 0 0, .slice none 0 0] := by kernel_rfl
theorem tZ_59 : Tryz.prog.cellsOf 59 = 5 := by kernel_rfl
instance : SzD Tryz.prog 59 5 := ⟨tZ_59⟩
theorem ZhU : Zca Tryz.prog 59 = some [(0, 1), (1, 1), (2, 1), (3, 1), (4, 1)] := by kernel_rfl
theorem Zhw : ZeE Tryz.prog 59 = true := by kernel_rfl
theorem Jt : tAgg Tryz.prog 59 5 = true := by kernel_rfl
theorem tZ_4 : Tryz.prog.cellsOf 4 = 1 := by kernel_rfl
instance : SzD Tryz.prog 4 1 := ⟨tZ_4⟩
theorem Zia : tSl Tryz.prog 57 4 1 1 = true := by kernel_rfl
theorem tZ4 : XR Tryz.prog 4 = some [.bool false] := by kernel_rfl
theorem ZH : tFld Tryz.prog 59 2 2 = true := by kernel_rfl
theorem Ql : tScal Tryz.prog 55 = true := by kernel_rfl
theorem ZeT : tInt Tryz.prog 131 .u64 = true := by kernel_rfl
theorem Z8 : tSl Tryz.prog 55 22 1 24 = true := by kernel_rfl
theorem tZ_22 : Tryz.prog.cellsOf 22 = 1 := by kernel_rfl
instance : SzD Tryz.prog 22 1 := ⟨tZ_22⟩
theorem ZcU : tSl Tryz.prog 36 59 5 88 = true := by kernel_rfl
theorem Zh2 : tFld Tryz.prog 59 0 0 = true := by kernel_rfl
theorem Zjt : tFld Tryz.prog 59 1 1 = true := by kernel_rfl
theorem Zfy : tFld Tryz.prog 59 3 3 = true := by kernel_rfl
theorem ZjI : tScal Tryz.prog 56 = true := by kernel_rfl
theorem ZgW : tFld Tryz.prog 59 4 4 = true := by kernel_rfl
theorem Zjv : tScal Tryz.prog 57 = true := by kernel_rfl
theorem Zhi : tScal Tryz.prog 22 = true := by kernel_rfl
theorem Zmm : Zca Tryz.prog 80 = some [(0, 2), (2, 1), (3, 1), (4, 1), (5, 1), (6, 1)] := by kernel_rfl
theorem Zmu : ZeE Tryz.prog 80 = true := by kernel_rfl
theorem ZmD : XR Tryz.prog 80 = some [.slice none 0 0, .slice none 0 0, .int .i64 0, .bool false, .bool false, .int .i64 0, .bool false] := by kernel_rfl
theorem ZmH : tAgg Tryz.prog 80 7 = true := by kernel_rfl
theorem ZlV : (match Tryz.prog.underlying 22 with | some (.slice _) => true | _ => false) = true := by kernel_rfl
theorem Zl6 : (match Tryz.prog.underlying 56 with | some (.slice _) => true | _ => false) = true := by kernel_rfl
theorem ZlM : (match Tryz.prog.underlying 57 with | some (.slice _) => true | _ => false) = true := by kernel_rfl
theorem ZeY : tFld Tryz.prog 80 0 0 = true := by kernel_rfl
theorem ZdW : tFld Tryz.prog 78 0 0 = true := by kernel_rfl
theorem ZiL : tScal Tryz.prog 36 = true := by kernel_rfl
theorem Zkl : XR Tryz.prog 83 = some [.int .i64 0, .int .i64 0] := by kernel_rfl
theorem tZ_83 : Tryz.prog.cellsOf 83 = 2 := by kernel_rfl
instance : SzD Tryz.prog 83 2 := ⟨tZ_83⟩
theorem Zmg : XR Tryz.prog 109 = some [.nilFunc] := by kernel_rfl
theorem tZ_109 : Tryz.prog.cellsOf 109 = 1 := by kernel_rfl
instance : SzD Tryz.prog 109 1 := ⟨tZ_109⟩
theorem ZkP : tScal Tryz.prog 109 = true := by kernel_rfl
theorem ZhX : tArr Tryz.prog 211 16 5 1 = true := by kernel_rfl
theorem tI5 : tInt Tryz.prog 5 .u8 = true := by kernel_rfl
theorem tS4 : tScal Tryz.prog 4 = true := by kernel_rfl
theorem Zk8 : Zca Tryz.prog 83 = some [(0, 1), (1, 1)] := by kernel_rfl
theorem ZkR : ZeE Tryz.prog 83 = true := by kernel_rfl
theorem ZiH : tAgg Tryz.prog 83 2 = true := by kernel_rfl
theorem ZgJ : tFld Tryz.prog 83 0 0 = true := by kernel_rfl
theorem ZjJ : tArr Tryz.prog 210 97 5 1 = true := by kernel_rfl
theorem Zh0 : tFld Tryz.prog 83 1 1 = true := by kernel_rfl
theorem ZfD : tFld Tryz.prog 78 1 1 = true := by kernel_rfl
theorem Zju : tScal Tryz.prog 76 = true := by kernel_rfl
theorem ZjE : tSl Tryz.prog 76 83 2 16 = true := by kernel_rfl
theorem ZjA : tFld Tryz.prog 80 2 3 = true := by kernel_rfl
theorem tZ_80 : Tryz.prog.cellsOf 80 = 7 := by kernel_rfl
instance : SzD Tryz.prog 80 7 := ⟨tZ_80⟩
theorem ZkX : tFld Tryz.prog 80 3 4 = true := by kernel_rfl
theorem Zhv : Zca Tryz.prog 133 = some [(0, 1), (1, 1)] := by kernel_rfl
theorem ZhO : ZeE Tryz.prog 133 = true := by kernel_rfl
theorem ZiW : XR Tryz.prog 133 = some [.int .i64 0, .int .i64 0] := by kernel_rfl
theorem ZgF : tSl Tryz.prog 97 133 2 16 = true := by kernel_rfl
theorem tZ_133 : Tryz.prog.cellsOf 133 = 2 := by kernel_rfl
instance : SzD Tryz.prog 133 2 := ⟨tZ_133⟩
theorem Zmd : tArr Tryz.prog 134 4 44 1 = true := by kernel_rfl
theorem Zl9 : tFld Tryz.prog 80 1 2 = true := by kernel_rfl
theorem ZlB : XR Tryz.prog 141 = some [.int .u8 0, .int .u8 0, .int .u8 0, .int .u8 0, .int .u8 0, .int .u8 0, .int .u8 0, .int .u8 0, .int .u8 0, .int .u8 0, .int .u8 0, .int .u8 0, .int .u8 0, .int .u8 0, .int .u8 0, .int .u8 0, .int .u8 0, .int .u8 0, .int .u8 0, .int .u8 0, .int .u8 0, .int .u8 0, .int .u8 0, .int .u8 0, .int .u8 0, .int .u8 0, .int .u8 0, .int .u8 0, .int .u8 0, .int .u8 0, .int .u8 0, .int .u8 0, .int .u8 0, .int .u8 0, .int .u8 0, .int .u8 0, .int .u8 0, .int .u8 0, .int .u8 0, .int .u8 0, .int .u8 0, .int .u8 0, .int .u8 0, .int .u8 0, .int .u8 0, .int .u8 0, .int .u8 0, .int .u8 0, .int .u8 0, .int .u8 0, .int .u8 0, .int .u8 0, .int .u8 0, .int .u8 0, .int .u8 0, .int .u8 0, .int .u8 0, .int .u8 0, .int .u8 0, .int .u8 0, .int .u8 0, .int .u8 0, .int .u8 0, .int .u8 0, .int .u8 0, .int .u8 0, .int .u8 0, .int .u8 0, .int .u8 0, .int .u8 0, .int .u8 0, .int .u8 0, .int .u8 0, .int .u8 0, .int .u8 0, .int .u8 0, .int .u8 0, .int .u8 0, .int .u8 0, .int .u8 0, .int .u8 0, .int .u8 0, .int .u8 0, .int .u8 0, .int .u8 0, .int .u8 0, .int .u8 0, .int .u8 0, .int .u8 0, .int .u8 0, .int .u8 0, .int .u8 0, .int .u8 0, .int .u8 0, .int .u8 0, .int .u8 0] := by kernel_rfl
theorem tZ_141 : Tryz.prog.cellsOf 141 = 96 := by kernel_rfl
instance : SzD Tryz.prog 141 96 := ⟨tZ_141⟩
theorem Zdl : tArr Tryz.prog 141 96 5 1 = true := by kernel_rfl
theorem ZlY : tFld Tryz.prog 80 4 5 = true := by kernel_rfl
theorem Zl3 : tFld Tryz.prog 80 5 6 = true := by kernel_rfl
theorem ZlI : tAgg Tryz.prog 141 96 = true := by kernel_rfl
theorem ZlS : Zca Tryz.prog 123 = some [(0, 1), (1, 1), (2, 1), (3, 1), (4, 64)] := by kernel_rfl
theorem ZlL : ZeE Tryz.prog 123 = true := by kernel_rfl
theorem ZkW : XR Tryz.prog 123 = some ([.int .i64 0, .int .i64 0, .int .i64 0, .int .i64 0] ++ (List.flatten (List.replicate 64 [.int .u16 0]))) := by kernel_rfl
theorem Zj1 : tSl Tryz.prog 118 123 68 160 = true := by kernel_rfl
theorem tZ_123 : Tryz.prog.cellsOf 123 = 68 := by kernel_rfl
instance : SzD Tryz.prog 123 68 := ⟨tZ_123⟩
theorem ZiP : tMap Tryz.prog 121 3 123 = true := by kernel_rfl
theorem ZkD : ZjL Tryz.prog 123 = some (.agg (([.int .i64 0, .int .i64 0, .int .i64 0, .int .i64 0] ++ (List.flatten (List.replicate 64 [.int .u16 0]))) : List Value).toArray) := by kernel_rfl
theorem ZjV : tAgg Tryz.prog 123 68 = true := by kernel_rfl
theorem ZjK : tFld Tryz.prog 123 4 4 = true := by kernel_rfl
theorem ZjT : tFld Tryz.prog 123 2 2 = true := by kernel_rfl
theorem tZ_121 : Tryz.prog.cellsOf 121 = 1 := by kernel_rfl
instance : SzD Tryz.prog 121 1 := ⟨tZ_121⟩
theorem ZkT : ZkZ Tryz.prog 123 4 4 46 64 = true := by kernel_rfl
theorem Zly : tSl Tryz.prog 72 46 64 128 = true := by kernel_rfl
def gl0 : Gl := ⟨1, [(0, (gv_frame_syncs.toList.map fun z => Value.int .u16 z).toArray)]⟩
def R5 (x : Int) : List AV := [.int .u8 x]
theorem D5 (x : Int) : (R5 x).length = Tryz.prog.cellsOf 5 ∧ (R5 x).all datB = true := ⟨tZ_5.symm, rfl⟩
instance : RowD Tryz.prog 5 R5 := ⟨D5⟩
def R3 (x : Int) : List AV := [.int .i64 x]
def C44 (x : Int) : AV := .int .u16 x
def C3 (x : Int) : AV := .int .i64 x
theorem D3 (x : Int) : (R3 x).length = Tryz.prog.cellsOf 3 ∧ (R3 x).all datB = true := ⟨tZ_3.symm, rfl⟩
instance : RowD Tryz.prog 3 R3 := ⟨D3⟩
def R4 (x : Bool) : List AV := [.bool x]
theorem D4 (x : Bool) : (R4 x).length = Tryz.prog.cellsOf 4 ∧ (R4 x).all datB = true := ⟨tZ_4.symm, rfl⟩
instance : RowD Tryz.prog 4 R4 := ⟨D4⟩
def C5 (x : Int) : AV := .int .u8 x
def R22 (x : List Int) : List AV := [.sl 5 (List.map R5 x)]
theorem D22 (x : List Int) : (R22 x).length = Tryz.prog.cellsOf 22 ∧ (R22 x).all datB = true := ⟨tZ_22.symm, rfl⟩
instance : RowD Tryz.prog 22 R22 := ⟨D22⟩
theorem DR5 (x : Int) : (R5 x).length = Tryz.prog.cellsOf 5 ∧ Zcy Tryz.prog (R5 x) := ⟨(D5 x).1, dlF rfl⟩
def O22 (x : List Int) : List AV := [.osub 5 (List.map R5 x)]
theorem XD (x : List Int) : (O22 x).length = Tryz.prog.cellsOf 22 ∧ Zcy Tryz.prog (O22 x) := ⟨tZ_22.symm, dlC (dcS DR5) <| dlN⟩
theorem ZlO (x : List Int) : Pw (MeltC Tryz.prog) (O22 x) (R22 x) := .cons (mcS DR5 (fun x => (D5 x).1) (fun _ => mcF rfl)) <| .nil
def R59 (x : api_Memory) : List AV := [.int .i64 x.Slots, .int .i64 x.Limit, .sl 22 (List.map R22 x.Sectors), .sl 3 (List.map R3 x.Wear), .sl 4 (List.map R4 x.Bad)]
theorem D59 (x : api_Memory) : (R59 x).length = Tryz.prog.cellsOf 59 ∧ (R59 x).all datB = true := ⟨tZ_59.symm, rfl⟩
instance : RowD Tryz.prog 59 R59 := ⟨D59⟩
theorem DR3 (x : Int) : (R3 x).length = Tryz.prog.cellsOf 3 ∧ Zcy Tryz.prog (R3 x) := ⟨(D3 x).1, dlF rfl⟩
theorem DR4 (x : Bool) : (R4 x).length = Tryz.prog.cellsOf 4 ∧ Zcy Tryz.prog (R4 x) := ⟨(D4 x).1, dlF rfl⟩
def O59 (x : api_Memory) : List AV := [.int .i64 x.Slots, .int .i64 x.Limit, .osub 22 (List.map O22 x.Sectors), .osub 3 (List.map R3 x.Wear), .osub 4 (List.map R4 x.Bad)]
theorem XC (x : api_Memory) : (O59 x).length = Tryz.prog.cellsOf 59 ∧ Zcy Tryz.prog (O59 x) := ⟨tZ_59.symm, dlC (.flat rfl) <| dlC (.flat rfl) <| dlC (dcS XD) <| dlC (dcS DR3) <| dlC (dcS DR4) <| dlN⟩
theorem Zjw (x : api_Memory) : Pw (MeltC Tryz.prog) (O59 x) (R59 x) := .cons (.dat rfl) <| .cons (.dat rfl) <| .cons (mcS XD (fun x => (D22 x).1) ZlO) <| .cons (mcS DR3 (fun x => (D3 x).1) (fun _ => mcF rfl)) <| .cons (mcS DR4 (fun x => (D4 x).1) (fun _ => mcF rfl)) <| .nil
def R83 (x : ring_spot) : List AV := [.int .i64 x.sector, .int .i64 x.slot]
theorem D83 (x : ring_spot) : (R83 x).length = Tryz.prog.cellsOf 83 ∧ (R83 x).all datB = true := ⟨tZ_83.symm, rfl⟩
instance : RowD Tryz.prog 83 R83 := ⟨D83⟩
def R133 (x : api_Flaw) : List AV := [.int .i64 x.Word, .int .i64 x.Kind]
theorem D133 (x : api_Flaw) : (R133 x).length = Tryz.prog.cellsOf 133 ∧ (R133 x).all datB = true := ⟨tZ_133.symm, rfl⟩
instance : RowD Tryz.prog 133 R133 := ⟨D133⟩
theorem at1 {a0 : AV} {a1 : AV} {a2 : AV} {a3 : AV} {v4 : Vector Int 64} : At ((a0) :: (a1) :: (a2) :: (a3) :: ((List.map C44 v4.toList) ++ ([]))) 0 1 ([a0]) := at0 (hdc (n := 0) hd0)
theorem pt2 {a0 : AV} {a1 : AV} {a2 : AV} {a3 : AV} {v4 : Vector Int 64} {b0 : AV} : Put ((a0) :: (a1) :: (a2) :: (a3) :: ((List.map C44 v4.toList) ++ ([]))) 0 ([b0]) ((b0) :: (a1) :: (a2) :: (a3) :: ((List.map C44 v4.toList) ++ ([]))) := Zlf
theorem at3 {a0 : AV} {a1 : AV} {a2 : AV} {a3 : AV} {v4 : Vector Int 64} : At ((a0) :: (a1) :: (a2) :: (a3) :: ((List.map C44 v4.toList) ++ ([]))) 1 1 ([a1]) := atc (o := 0) (at0 (hdc (n := 0) hd0))
theorem pt4 {a0 : AV} {a1 : AV} {a2 : AV} {a3 : AV} {v4 : Vector Int 64} {b1 : AV} : Put ((a0) :: (a1) :: (a2) :: (a3) :: ((List.map C44 v4.toList) ++ ([]))) 1 ([b1]) ((a0) :: (b1) :: (a2) :: (a3) :: ((List.map C44 v4.toList) ++ ([]))) := Zic (o := 0) (Zlf)
theorem at5 {a0 : AV} {a1 : AV} {a2 : AV} {a3 : AV} {v4 : Vector Int 64} : At ((a0) :: (a1) :: (a2) :: (a3) :: ((List.map C44 v4.toList) ++ ([]))) 2 1 ([a2]) := atc (o := 1) (atc (o := 0) (at0 (hdc (n := 0) hd0)))
theorem pt6 {a0 : AV} {a1 : AV} {a2 : AV} {a3 : AV} {v4 : Vector Int 64} {b2 : AV} : Put ((a0) :: (a1) :: (a2) :: (a3) :: ((List.map C44 v4.toList) ++ ([]))) 2 ([b2]) ((a0) :: (a1) :: (b2) :: (a3) :: ((List.map C44 v4.toList) ++ ([]))) := Zic (o := 1) (Zic (o := 0) (Zlf))
theorem at7 {a0 : AV} {a1 : AV} {a2 : AV} {a3 : AV} {v4 : Vector Int 64} : At ((a0) :: (a1) :: (a2) :: (a3) :: ((List.map C44 v4.toList) ++ ([]))) 3 1 ([a3]) := atc (o := 2) (atc (o := 1) (atc (o := 0) (at0 (hdc (n := 0) hd0))))
theorem pt8 {a0 : AV} {a1 : AV} {a2 : AV} {a3 : AV} {v4 : Vector Int 64} {b3 : AV} : Put ((a0) :: (a1) :: (a2) :: (a3) :: ((List.map C44 v4.toList) ++ ([]))) 3 ([b3]) ((a0) :: (a1) :: (a2) :: (b3) :: ((List.map C44 v4.toList) ++ ([]))) := Zic (o := 2) (Zic (o := 1) (Zic (o := 0) (Zlf)))
theorem at9 {a0 : AV} {a1 : AV} {a2 : AV} {a3 : AV} {v4 : Vector Int 64} : At ((a0) :: (a1) :: (a2) :: (a3) :: ((List.map C44 v4.toList) ++ ([]))) 4 64 ((List.map C44 v4.toList)) := atc (o := 3) (atc (o := 2) (atc (o := 1) (atc (o := 0) (at0 (hdw arL)))))
theorem ZmC {a0 : AV} {a1 : AV} {a2 : AV} {a3 : AV} {v4 : Vector Int 64} {w4 : Vector Int 64} : Put ((a0) :: (a1) :: (a2) :: (a3) :: ((List.map C44 v4.toList) ++ ([]))) 4 ((List.map C44 w4.toList)) ((a0) :: (a1) :: (a2) :: (a3) :: ((List.map C44 w4.toList) ++ ([]))) := Zic (o := 3) (Zic (o := 2) (Zic (o := 1) (Zic (o := 0) (Zmv (Eq.trans arL (Eq.symm arL))))))
theorem Zde {a0 : AV} {a1 : AV} {a2 : AV} {a3 : AV} {v4 : Vector Int 64} : ((a0) :: (a1) :: (a2) :: (a3) :: ((List.map C44 v4.toList) ++ ([]))).length = 68 := lnC (n := 67) (lnC (n := 66) (lnC (n := 65) (lnC (n := 64) (lnA (m := 64) (n := 0) arL (lnN)))))
theorem ZfC {x0 : Int} {x1 : Int} {x2 : Int} {x3 : Int} {v4 : Vector Int 64} : ((.int .i64 x0) :: (.int .i64 x1) :: (.int .i64 x2) :: (.int .i64 x3) :: ((List.map C44 v4.toList) ++ ([]))).all datB = true := alC rfl (alC rfl (alC rfl (alC rfl (alA (arD fun _ => rfl) (alN)))))
def R123 (x : api_Kept) : List AV := (.int .i64 x.Memory) :: (.int .i64 x.Sector) :: (.int .i64 x.Sequence) :: (.int .i64 x.Slot) :: ((List.map C44 x.Frame.toList) ++ ([]))
theorem Zmb {x0 : Int} {x1 : Int} {x2 : Int} {x3 : Int} {v4 : Vector Int 64} : ((.int .i64 x0) :: (.int .i64 x1) :: (.int .i64 x2) :: (.int .i64 x3) :: ((List.map C44 v4.toList) ++ ([]))).all c1B = true := alC rfl (alC rfl (alC rfl (alC rfl (alA (arC fun _ => rfl) (alN)))))
theorem ZmG (x : api_Kept) : (R123 x).all c1B = true := Zmb
theorem D123 (x : api_Kept) : (R123 x).length = Tryz.prog.cellsOf 123 ∧ (R123 x).all datB = true := ⟨Eq.trans (b := 68) Zde tZ_123.symm, ZfC⟩
instance : RowD Tryz.prog 123 R123 := ⟨D123⟩
def FK3 (x : Int) : AV := .int .i64 x
theorem Zma : KeyOK Tryz.prog 3 FK3 kqI := Zlp (fun _ => rfl) tI3
def Zcx (x : api_Kept) : AV := .agg ((.int .i64 x.Memory) :: (.int .i64 x.Sector) :: (.int .i64 x.Sequence) :: (.int .i64 x.Slot) :: ((List.map C44 x.Frame.toList) ++ ([])))
theorem ZmE {x0 : Int} {x1 : Int} {x2 : Int} {x3 : Int} {v4 : Vector Int 64} : NS ((.int .i64 x0) :: (.int .i64 x1) :: (.int .i64 x2) :: (.int .i64 x3) :: ((List.map C44 v4.toList) ++ ([]))) := nsC rfl (nsC rfl (nsC rfl (nsC rfl (nsA (nsM fun _ => rfl) (nsR rfl)))))
def R46 (x : Vector Int 64) : List AV := (List.map C44 x.toList)
theorem E46 (x : Vector Int 64) : (R46 x).all c1B = true := (arC fun _ => rfl)
theorem D46 (x : Vector Int 64) : (R46 x).length = Tryz.prog.cellsOf 46 ∧ (R46 x).all datB = true := ⟨Eq.trans (b := 64) arL tZ_46.symm, (arD fun _ => rfl)⟩
instance : RowD Tryz.prog 46 R46 := ⟨D46⟩
theorem Zml : ZlU Tryz.prog 46 ((List.replicate 64 ([.i .u16])).flatten) := ⟨by kernel_rfl, by kernel_rfl, by kernel_rfl⟩
theorem ZdM {b : List Int} {r : (List Int) × (Int × Int)} (h : X9 b = some r) :
 GSpec Tryz.prog gl0 5 [.sl 5 (List.map R5 b)] [] (.tuple [.own 0 r.1.length, .osl 0 r.1.length (Int.toNat r.2.1) (Int.toNat (r.2.2 - r.2.1))]) [some ⟨5, List.map R5 r.1⟩] := by
 unfold X9 at h
 replace h := Z5 h
 refine Z1 (by kernel_rfl) Tryz.func5 Y Y<|?_
 intro w0 A W φ0
 refine Tr<|Ra Y<|Ra Y<|Za<|K2 0 2 Y<|Tr<|Rx Y (ZgV (r := 0) (xs := ([1, 2, 3] : List Int)) (f := R5) Y ZL (.cons (cvs (ov Y)<|Zj Y) Y (.cons (.b Y) .nil)<|.cons (cvs (ov Y)<|Zj Y) Y (.cons (.b Y) .nil)<|.cons (cvs (ov Y)<|Zj Y) Y (.cons (.b Y) .nil) .nil) Y Y Y)<|Rm Y<|bE h fun l h_l h=>Rx Y (Zij (ov Y) (Qt (ov Y) tZ_5) ZL Y Y (fun _=>Zb Y) Y h_l)<|R_q (.sl 5<|List.map R5 ([9, 8, 7, 6, 5] : List Int)) Y (XX ZL (.cons (cvs (ov Y)<|Zj Y) Y (.cons (.b Y) .nil)<|.cons (cvs (ov Y)<|Zj Y) Y (.cons (.b Y) .nil)<|.cons (cvs (ov Y)<|Zj Y) Y (.cons (.b Y) .nil)<|.cons (cvs (ov Y)<|Zj Y) Y (.cons (.b Y) .nil)<|.cons (cvs (ov Y)<|Zj Y) Y (.cons (.b Y) .nil) .nil) Y Y)<|bE h fun l2 h_l2 h=>Rx Y (Zij (ov Y) (Qt (ov Y) tZ_5) ZL Y Y (fun _=>Zb Y) Y h_l2)<|Ra Y<|Za<|Zf<|K2 0 2 Y<|Qm (cw := md0) (by kernel_rfl)<|D1 0 Zc Y<|D1 1 Zc Y<|D1 2 Zc Y<|Dq 3 Y (Zgo (Qt (ov Y) tZ_5) ZL<|ZcD _ _)<|D2 4 ZI Y<|bE h fun u h_u h=>Dq 5 Y (Zkx (ov Y) Y Y ZL (oi<|ov Y) (oi<|ov Y) h_u)<|D1 6 Qh Y<|D1 7 Qh Y<|Dd<|?_
 obtain rfl := rt h
 exact Zn<|XY [some 0] Y (.cons (.tmp Y)<|.cons (.tmp Y) .nil) (.cons Y (roM D5) .nil) Y Y<|Qr<|rlc (.own _ Y)<|rlc (.osl _ _ _ Y) rln
theorem Z3 {n : Int} {low : Int} {high : Int} {r : Bool} (h : ZF n low high = some r) :
 CSpec Tryz.prog gl0 25 [.int .i64 n, .int .i64 low, .int .i64 high] (.bool r) := by
 unfold ZF at h
 replace h := Z5 h
 refine So Tryz.func25 Y fun w0 A=>Tr<|Ra Y<|Za<|Tr<|Rm Y<|Rm Y<|R2 Zh1 Y<|Rm Y<|Rq Y (.guarded ((decide (low ≤ n)) == true) Y Y Y Y fun h => Zc<|ov Y)<|Rq Y (.guarded ((decide (low ≤ n)) == true) Y Y Y Y fun h => Zc<|ov Y)<|Rq Y (.guarded ((decide (low ≤ n)) == true) Y Y Y Y fun h => Zik (ow Y h)<|ow Y h)<|Rq Y (Zai (ov Y) fun hp=>ow Y<|gT hp)<|Ra Y<|Za<|?_
 obtain rfl := rt h
 exact Zn (ZN Y (.one<|rb Y))
theorem Zfd {s : List Int} {s_p : Int} {s_q : Int} {at_ : Int} {data : List Int} {power : Int} {r : Int × Bool × (List Int)} (h_s_z : slq s s_p s_q = some ()) (h : Q3 s s_p s_q at_ data power = some r) :
 GSpec Tryz.prog gl0 26 [.osl 0 s.length (Int.toNat s_p) (Int.toNat (s_q - s_p)), .int .i64 at_, .sl 5 (List.map R5 data), .int .i64 power] [some ⟨5, List.map R5 s⟩] (.tuple [.int .i64 r.1, .bool r.2.1]) [some ⟨5, List.map R5 r.2.2⟩] := by
 unfold Q3 at h
 replace h := Z5 h
 refine Z1 (by kernel_rfl) Tryz.func26 Y Y<|?_
 intro w0 A W φ0
 refine Tr<|Ra Y<|Ra Y<|Za<|J2 (fun j => (.inr j)) (fun o power2=>⟨[(3, .int .i64 power2)], [some ⟨5, List.map R5 o⟩]⟩) h (fun h=>?_) fun o power2 h=>?_
 ·
  refine K4 0 1 2 3 Y<|Tr<|Rm Y<|Rl tZ_5 ZL Y<|Rm Y<|Za<|Ze<|?_
  obtain ⟨r1, hl1, ho1⟩ := QP h
  refine L3 (fun o2 power3 i=>⟨[(0, .osl 0 o2.length (Int.toNat s_p) (Int.toNat (s_q - s_p))), (1, .int .i64 at_), (3, .int .i64 power3), (12, .sl 5 (List.map R5 data)), (13, .int .i64 (data.length : Int)), (14, .int .i64 i)], [some ⟨5, List.map R5 o2⟩]⟩) hl1 (ES [some 0]<|sr 0 Y (.osl _ _ _ Y)<|sd 1 Y Y<|sd 3 Y Y<|sd 12 Y Y<|sd 13 Y Y<|sd 14 Y Y sn) fun n1 o2 power3 i h=>?_
  unfold Qy at h
  refine Tr<|R2 ZJ Y<|Za<|Zf<|If h Y (fun h=>?_) fun h=>?_
  ·
   refine Zh<|Zf<|Ze<|K6 0 1 3 12 13 14 Y<|Tr<|Rm Y<|bE h fun x h_x h=>Rq Y (Qo (ov Y) (ov Y) ZL h_x)<|Rq Y (Zi (ov Y) tS5 Y)<|Ra Y<|Ra Y<|Za<|Zf<|K8 0 1 3 10 11 12 13 14 Y<|Tr<|Rm Y<|R2 JG Y<|Za<|K9 0 1 3 10 11 12 13 14 20 Y<|If h Y (fun h=>?_) fun h=>?_
   ·
    refine K4 0 1 10 11 Y<|Tr<|Rm Y<|Rm Y<|Rm Y<|R2 ZI Y<|bE h fun u h_u h=>bE h fun x3 h_x3 h=>Rq Y (Zf8 (ov Y) (ov Y) ZL Y Y (ZbF h_s_z).1 h_u h_x3)<|Rq Y (ZU (ov Y) Y Y h_x3 tS5 Y)<|Rm Y<|R2 Zeo Y<|R2 Jn Y<|bE h fun u2 h_u2 h=>bE h fun x5 h_x5 h=>Rq Y (Zf8 (ov Y) (ov Y) ZL Y Y (ZbF h_s_z).1 h_u2 h_x5)<|Rx Y (Qu (u' := (Q6 .u8 x3 (bor .u8 x 15))) (ov Y) (ov Y) (Zd tS5) Y Y h_x5 Y (Zb Y) Y)<|Za<|K0<|Tr<|Ra Y<|Ra Y<|Za<|?_
    replace h := lx h ▸ ho1
    obtain rfl := rt h
    exact Zn<|XY [some 0] Y (.cons (.tmp Y)<|.cons (.tmp Y) .nil) (.cons Y (roM D5) .nil) Y Y<|Qr<|rlc (.dat Y)<|rlc (.dat Y) rln
   ·
    exact Zh<|K8 0 1 3 10 11 12 13 14 Y<|Tr<|Rm Y<|Rm Y<|Rm Y<|R2 ZI Y<|bE h fun u3 h_u3 h=>bE h fun x7 h_x7 h=>Rq Y (Zf8 (ov Y) (ov Y) ZL Y Y (ZbF h_s_z).1 h_u3 h_x7)<|Rq Y (ZU (ov Y) Y Y h_x7 tS5 Y)<|Rm Y<|R2 Jn Y<|bE h fun u4 h_u4 h=>bE h fun x9 h_x9 h=>Rq Y (Zf8 (ov Y) (ov Y) ZL Y Y (ZbF h_s_z).1 h_u4 h_x9)<|Rx Y (Qu (u' := (Q6 .u8 x7 x)) (ov Y) (ov Y) (Zd tS5) Y Y h_x9 Y (Zb Y) Y)<|Za<|K6 0 1 3 12 13 14 Y<|Zq<|Rm Y<|R2 Zac Y<|Ra Y<|Za<|K6 0 1 3 12 13 14 Y<|Zq<|R2 ZI Y<|Rm Y<|Za<|⟨_, h, ES [some 0]<|sr 0 Y (Zln (Eq.symm<|(List.length_set ..).trans Y) Y)<|sd 1 Y Y<|sd 3 Y Y<|sd 12 Y Y<|sd 13 Y Y<|sd 14 Y Y sn⟩
  ·
   refine ZD<|?_
   replace h := lx h ▸ ho1
   exact ⟨_, h, ES [some 0]⟩
 ·
  replace h := elr h
  replace h := t2i h
  refine Tr<|Rm Y<|Ra Y<|Ra Y<|Za<|?_
  obtain rfl := rt h
  exact Zn<|XY [some 0] Y (.cons (.tmp Y)<|.cons (.tmp Y) .nil) (.cons Y (roM D5) .nil) Y Y<|Qr<|rlc (.dat Y)<|rlc (.dat Y) rln
theorem Zfk {s : List Int} {s_p : Int} {s_q : Int} {at_ : Int} {data : List Int} {power : Int} {r : Int × Bool × Int × (List Int)} (h_s_z : slq s s_p s_q = some ()) (h : Q5 s s_p s_q at_ data power = some r) :
 GSpec Tryz.prog gl0 6 [.osl 0 s.length (Int.toNat s_p) (Int.toNat (s_q - s_p)), .int .i64 at_, .sl 5 (List.map R5 data), .int .i64 power] [some ⟨5, List.map R5 s⟩] (.tuple [.int .i64 r.1, .bool r.2.1, .int .i64 r.2.2.1]) [some ⟨5, List.map R5 r.2.2.2⟩] := by
 unfold Q5 at h
 replace h := Z5 h
 refine Z1 (by kernel_rfl) Tryz.func6 Y Y<|?_
 intro w0 A W φ0
 refine Tr<|Ra Y<|Ra Y<|Ra Y<|Za<|Zf<|K4 0 1 2 3 Y<|Tr<|Rm Y<|R2 ZJ Y<|Rm Y<|Rq Y (.guarded ((decide (at_ < 0)) == false) Y Y Y Y fun h => Zc<|ov Y)<|bE h fun y h_y h=>Rq Y (.guarded ((decide (at_ < 0)) == false) Y Y Y Y fun h => Zr (Z3<|gdT h_y h)<|.cons (ow Y h) (.b Y)<|.cons (ov Y) (.b Y)<|.cons (ov Y) (.b Y) .nil)<|Rq Y (.guarded ((decide (at_ < 0)) == false) Y Y Y Y fun h => XW<|ow Y h)<|Rq Y (Zdw (ov Y) fun hp=>ow Y<|gF hp)<|Za<|K5 0 1 2 3 19 Y<|If h Y (fun h=>?_) fun h=>?_
 ·
  refine K0<|Tr<|Ra Y<|Ra Y<|Ra Y<|Za<|?_
  obtain rfl := rt h
  exact Zn<|XY [some 0] Y (.cons (.tmp Y)<|.cons (.tmp Y)<|.cons (.tmp Y) .nil) (.cons Y (roM D5) .nil) Y Y<|Qr<|rlc (.dat Y)<|rlc (.dat Y)<|rlc (.dat Y) rln
 ·
  refine Zh<|Zf<|K4 0 1 2 3 Y<|Tr<|Rm Y<|Rm Y<|Rq Y (ZgE (ov Y) Y (List.length_map ..) ZL)<|Rm Y<|Rl tZ_5 ZL Y<|R2 Zac Y<|R2 JR Y<|Za<|K5 0 1 2 3 26 Y<|If h Y (fun h=>?_) fun h=>?_
  ·
   refine K0<|Tr<|Ra Y<|Ra Y<|Ra Y<|Za<|?_
   obtain rfl := rt h
   exact Zn<|XY [some 0] Y (.cons (.tmp Y)<|.cons (.tmp Y)<|.cons (.tmp Y) .nil) (.cons Y (roM D5) .nil) Y Y<|Qr<|rlc (.dat Y)<|rlc (.dat Y)<|rlc (.dat Y) rln
  ·
   refine Zh<|K4 0 1 2 3 Y<|Tr<|Rm Y<|Rm Y<|Rm Y<|Rm Y<|bE h fun y2 h_y2 h=>Rx Y (Zv [0] (Zfd (Zlv (by first | rfl | exact rfl) h_s_z) h_y2) (.cons (ov Y) (.osl _ _ _ Y)<|.cons (ov Y) (.dat Y)<|.cons (ov Y) (.dat Y)<|.cons (ov Y) (.dat Y) .nil) (.cons Y (roM D5) .nil) Y (.lent 0 (.inl Y) Y (roM D5) .nil) Y Y<|Qr<|rld Y)<|Rm Y<|Rq Y (Zg (ov Y) Y)<|Rq Y (Zg (ov Y) Y)<|Ra Y<|Ra Y<|Za<|K2 11 12 Y<|Tr<|Rm Y<|Rm Y<|Ra Y<|Ra Y<|Ra Y<|Za<|?_
   obtain rfl := rt h
   exact Zn<|XY [some 0] Y (.cons (.tmp Y)<|.cons (.tmp Y)<|.cons (.tmp Y) .nil) (.cons Y (roM D5) .nil) Y Y<|Qr<|rlc (.dat Y)<|rlc (.dat Y)<|rlc (.dat Y) rln
theorem Zeh {n : Int} {low : Int} {high : Int} {r : Bool} (h : QH n low high = some r) :
 CSpec Tryz.prog gl0 27 [.int .i64 n, .int .i64 low, .int .i64 high] (.bool r) := by
 unfold QH at h
 replace h := Z5 h
 refine So Tryz.func27 Y fun w0 A=>Tr<|Ra Y<|Za<|Tr<|Rm Y<|Rm Y<|R2 ZJ Y<|Rm Y<|Rq Y (.guarded ((decide (n < low)) == false) Y Y Y Y fun h => Zc<|ov Y)<|Rq Y (.guarded ((decide (n < low)) == false) Y Y Y Y fun h => Zc<|ov Y)<|Rq Y (.guarded ((decide (n < low)) == false) Y Y Y Y fun h => JR (ow Y h)<|ow Y h)<|Rq Y (Zdw (ov Y) fun hp=>ow Y<|gF hp)<|Ra Y<|Za<|?_
 obtain rfl := rt h
 exact Zn (ZN Y (.one<|rb Y))
theorem ZiV {s : List Int} {at_ : Int} {data : List Int} {power : Int} {r : (List Int) × Int × Bool} (h : ZeD s at_ data power = some r) :
 CSpec Tryz.prog gl0 28 [.sl 5 (List.map R5 s), .int .i64 at_, .sl 5 (List.map R5 data), .int .i64 power] (.tuple [.sl 5 (List.map R5 r.1), .int .i64 r.2.1, .bool r.2.2]) := by
 unfold ZeD at h
 replace h := Z5 h
 refine So Tryz.func28 Y fun w0 A=>Tr<|Ra Y<|Ra Y<|Ra Y<|Za<|K4 0 1 2 3 Y<|Tr<|Rx Y (ZgV (r := 0) (xs := ([] : List Int)) (f := R5) Y ZL .nil Y Y Y)<|Rm Y<|bE h fun l h_l h=>Rx Y (ZdE (ov Y) (Qt (ov Y) tZ_5) ZL Y Y (fun _=>Zb Y) Y h_l)<|Ra Y<|Za<|J2 (fun j => (.inr j)) (fun power2 out=>⟨[(3, .int .i64 power2), (11, .own 0 out.length)], [some ⟨5, List.map R5 out⟩]⟩) h (fun h=>?_) fun power2 out h=>?_
 ·
  refine K4 1 2 3 11 Y<|Tr<|Rm Y<|Rl tZ_5 ZL Y<|Rm Y<|Za<|Ze<|?_
  obtain ⟨r1, hl1, ho1⟩ := QP h
  refine L3 (fun power3 out2 i=>⟨[(1, .int .i64 at_), (3, .int .i64 power3), (11, .own 0 out2.length), (17, .sl 5 (List.map R5 data)), (18, .int .i64 (data.length : Int)), (19, .int .i64 i)], [some ⟨5, List.map R5 out2⟩]⟩) hl1 (ES [some 0]) fun n1 power3 out2 i h=>?_
  unfold Zdo at h
  refine Tr<|R2 ZJ Y<|Za<|Zf<|If h Y (fun h=>?_) fun h=>?_
  ·
   refine Zh<|Zf<|Ze<|K6 1 3 11 17 18 19 Y<|Tr<|Rm Y<|bE h fun x h_x h=>Rq Y (Qo (ov Y) (ov Y) ZL h_x)<|Rq Y (Zi (ov Y) tS5 Y)<|Ra Y<|Ra Y<|Za<|Zf<|K8 1 3 11 12 13 17 18 19 Y<|Tr<|Rm Y<|R2 JG Y<|Za<|K9 1 3 11 12 13 17 18 19 25 Y<|If h Y (fun h=>?_) fun h=>?_
   ·
    refine K4 1 11 12 13 Y<|Tr<|Rm Y<|Rm Y<|Rm Y<|R2 ZI Y<|bE h fun x2 h_x2 h=>Rq Y (ZY (ov Y) (ov Y) ZL Y Y h_x2)<|Rq Y (ZU (ov Y) Y Y h_x2 tS5 Y)<|Rm Y<|R2 Zeo Y<|R2 Jn Y<|bE h fun x3 h_x3 h=>Rq Y (ZY (ov Y) (ov Y) ZL Y Y h_x3)<|Rx Y (Qu (u' := (Q6 .u8 x2 (bor .u8 x 15))) (ov Y) (ov Y) (Zd tS5) Y Y h_x3 Y (Zb Y) Y)<|Za<|K1 11 Y<|Tr<|Rm Y<|Ra Y<|Ra Y<|Ra Y<|Za<|?_
    replace h := lx h ▸ ho1
    obtain rfl := rt h
    exact Zn (ZN Y (.three (.tmp Y<|View.ownM Y ((List.length_set ..).trans Y) D5) (rb Y)<|rb Y))
   ·
    exact Zh<|K8 1 3 11 12 13 17 18 19 Y<|Tr<|Rm Y<|Rm Y<|Rm Y<|R2 ZI Y<|bE h fun x4 h_x4 h=>Rq Y (ZY (ov Y) (ov Y) ZL Y Y h_x4)<|Rq Y (ZU (ov Y) Y Y h_x4 tS5 Y)<|Rm Y<|R2 Jn Y<|bE h fun x5 h_x5 h=>Rq Y (ZY (ov Y) (ov Y) ZL Y Y h_x5)<|Rx Y (Qu (u' := (Q6 .u8 x4 x)) (ov Y) (ov Y) (Zd tS5) Y Y h_x5 Y (Zb Y) Y)<|Za<|K6 1 3 11 17 18 19 Y<|Zq<|Rm Y<|R2 Zac Y<|Ra Y<|Za<|K6 1 3 11 17 18 19 Y<|Zq<|R2 ZI Y<|Rm Y<|Za<|⟨_, h, ES [some 0]<|sd 1 Y Y<|sd 3 Y Y<|sr 11 Y (Zcu (Eq.symm<|(List.length_set ..).trans Y) Y)<|sd 17 Y Y<|sd 18 Y Y<|sd 19 Y Y sn⟩
  ·
   refine ZD<|?_
   replace h := lx h ▸ ho1
   exact ⟨_, h, ES [some 0]⟩
 ·
  replace h := elr h
  replace h := t2i h
  refine Tr<|Rm Y<|Rm Y<|Ra Y<|Ra Y<|Ra Y<|Za<|?_
  obtain rfl := rt h
  exact Zn (ZN Y (.three (.tmp Y<|View.ownM Y Y D5) (rb Y)<|rb Y))
theorem ZgK {s : List Int} {at_ : Int} {data : List Int} {power : Int} {r : (List Int) × Int × Bool × Int} (h : Zay s at_ data power = some r) :
 CSpec Tryz.prog gl0 7 [.sl 5 (List.map R5 s), .int .i64 at_, .sl 5 (List.map R5 data), .int .i64 power] (.tuple [.sl 5 (List.map R5 r.1), .int .i64 r.2.1, .bool r.2.2.1, .int .i64 r.2.2.2]) := by
 unfold Zay at h
 replace h := Z5 h
 refine So Tryz.func7 Y fun w0 A=>Tr<|Ra Y<|Ra Y<|Ra Y<|Ra Y<|Za<|Zf<|K4 0 1 2 3 Y<|Tr<|Rm Y<|R2 ZJ Y<|Rm Y<|Rq Y (.guarded ((decide (at_ < 0)) == false) Y Y Y Y fun h => Zc<|ov Y)<|bE h fun y h_y h=>Rq Y (.guarded ((decide (at_ < 0)) == false) Y Y Y Y fun h => Zr (Zeh<|gdT h_y h)<|.cons (ow Y h) (.b Y)<|.cons (ov Y) (.b Y)<|.cons (ov Y) (.b Y) .nil)<|Rq Y (Zdw (ov Y) fun hp=>ow Y<|gF hp)<|Za<|K5 0 1 2 3 20 Y<|If h Y (fun h=>?_) fun h=>?_
 ·
  refine K1 0 Y<|Tr<|Rm Y<|Ra Y<|Ra Y<|Ra Y<|Ra Y<|Za<|?_
  obtain rfl := rt h
  exact Zn (ZN Y (.four (rb Y) (rb Y) (rb Y)<|rb Y))
 ·
  refine Zh<|Zf<|K4 0 1 2 3 Y<|Tr<|Rm Y<|Rm Y<|Rl tZ_5 ZL Y<|R2 JR Y<|Rm Y<|Rq Y (.guarded ((decide ((s.length : Int) < at_)) == false) Y Y Y Y fun h => Zc<|ov Y)<|Rq Y (.guarded ((decide ((s.length : Int) < at_)) == false) Y Y Y Y fun h => Zgo (Qt (ow Y h) tZ_5) ZL<|ZcD _ _)<|Rq Y (.guarded ((decide ((s.length : Int) < at_)) == false) Y Y Y Y fun h => Zc<|ov Y)<|Rq Y (.guarded ((decide ((s.length : Int) < at_)) == false) Y Y Y Y fun h => Zgo (Qt (ow Y h) tZ_5) ZL<|ZcD _ _)<|Rq Y (.guarded ((decide ((s.length : Int) < at_)) == false) Y Y Y Y fun h => Zc<|ov Y)<|Rq Y (.guarded ((decide ((s.length : Int) < at_)) == false) Y Y Y Y fun h => Ziy (ow Y h) (ow Y h) Y)<|Rq Y (.guarded ((decide ((s.length : Int) < at_)) == false) Y Y Y Y fun h => JR (ow Y h)<|ow Y h)<|Rq Y (Zdw (ov Y) fun hp=>ow Y<|gF hp)<|Za<|K5 0 1 2 3 34 Y<|If h Y (fun h=>?_) fun h=>?_
  ·
   refine K1 0 Y<|Tr<|Rm Y<|Ra Y<|Ra Y<|Ra Y<|Ra Y<|Za<|?_
   obtain rfl := rt h
   exact Zn (ZN Y (.four (rb Y) (rb Y) (rb Y)<|rb Y))
  ·
   refine Zh<|K4 0 1 2 3 Y<|Tr<|Rm Y<|Rm Y<|Rm Y<|Rm Y<|bE h fun y2 h_y2 h=>Rq Y (Zr (ZiV h_y2)<|.cons (ov Y) (.b Y)<|.cons (ov Y) (.b Y)<|.cons (ov Y) (.b Y)<|.cons (ov Y) (.b Y) .nil)<|Rm Y<|Rq Y (Zg (ov Y) Y)<|Rq Y (Zg (ov Y) Y)<|Rq Y (Zg (ov Y) Y)<|Ra Y<|Ra Y<|Ra Y<|Za<|K3 12 13 14 Y<|Tr<|Rm Y<|Rm Y<|Rm Y<|Ra Y<|Ra Y<|Ra Y<|Ra Y<|Za<|?_
   obtain rfl := rt h
   exact Zn (ZN Y (.four (rb Y) (rb Y) (rb Y)<|rb Y))
theorem Zbi {a : List Int} {b : List Int} {r : Bool} (h : XH a b = some r) :
 CSpec Tryz.prog gl0 8 [.sl 5 (List.map R5 a), .sl 5 (List.map R5 b)] (.bool r) := by
 unfold XH at h
 replace h := Z5 h
 refine So Tryz.func8 Y fun w0 A=>Tr<|Ra Y<|Za<|Tr<|Rm Y<|Rq Y (ZjR (f := R5) (Qt (ov Y) tZ_5) (fun _=>Y) ZL ZjZ Zms)<|Rm Y<|Rq Y (ZjR (f := R5) (Qt (ov Y) tZ_5) (fun _=>Y) ZL ZjZ Zms)<|R2 Zkz Y<|Ra Y<|Za<|?_
 obtain rfl := rt h
 exact Zn (ZN Y (.one<|rb Y))
theorem ZeL {all : List Int} {r : Bool} (h : ZaX all = some r) :
 CSpec Tryz.prog gl0 9 [.sl 5 (List.map R5 all)] (.bool r) := by
 unfold ZaX at h
 replace h := Z5 h
 refine So Tryz.func9 Y fun w0 A=>Tr<|Ra Y<|Za<|Tr<|Rm Y<|bE h fun l h_l h=>Rq Y (ZdH (ov Y) ZL on (oi<|ov Y) h_l)<|R_q (.sl 5<|List.map R5 ([1, 2, 3] : List Int)) Y (XX ZL (.cons (cvs (ov Y)<|Zj Y) Y (.cons (.b Y) .nil)<|.cons (cvs (ov Y)<|Zj Y) Y (.cons (.b Y) .nil)<|.cons (cvs (ov Y)<|Zj Y) Y (.cons (.b Y) .nil) .nil) Y Y)<|bE h fun y h_y h=>Rq Y (Zr (Zbi h_y)<|.cons (ov Y) (.b Y)<|.cons (ov Y) (.b Y) .nil)<|Rm Y<|Rq Y (.guarded (y == true) Y Y Y Y fun h => Zc<|ov Y)<|Rq Y (.guarded (y == true) Y Y Y Y fun h => Zc<|ov Y)<|Rq Y (.guarded (y == true) Y Y Y Y fun h => Zgo (Qt (ow Y h) tZ_5) ZL<|ZcD _ _)<|Rq Y (.guarded (y == true) Y Y Y Y fun h => Ziy (ow Y h) (ov Y) Y)<|bE h fun l2 h_l2 h=>Rq Y (.guarded (y == true) Y Y Y Y fun h => ZdH (ow Y h) ZL (oi<|ow Y h) on<|gdT h_l2 h)<|R_q (.when (y == true)<|.sl 5<|List.map R5 ([9, 8, 7, 6, 5] : List Int)) Y (.guarded (y == true) Y Y Y Y fun h => XX ZL (.cons (cvs (ov Y)<|Zj Y) Y (.cons (.b Y) .nil)<|.cons (cvs (ov Y)<|Zj Y) Y (.cons (.b Y) .nil)<|.cons (cvs (ov Y)<|Zj Y) Y (.cons (.b Y) .nil)<|.cons (cvs (ov Y)<|Zj Y) Y (.cons (.b Y) .nil)<|.cons (cvs (ov Y)<|Zj Y) Y (.cons (.b Y) .nil) .nil) Y Y)<|bE h fun y2 h_y2 h=>Rq Y (.guarded (y == true) Y Y Y Y fun h => Zr (Zbi<|gdT h_y2 h)<|.cons (ow Y h) (.b Y)<|.cons (ow Y h) (.b Y) .nil)<|Rq Y (Zai (ov Y) fun hp=>ow Y<|gT hp)<|Ra Y<|Za<|?_
 obtain rfl := rt h
 exact Zn (ZN Y (.one<|rb Y))
theorem Zd9 {s : List Int} {s_p : Int} {s_q : Int} {power : Int} {r : Int × Bool × (List Int)} (h_s_z : slq s s_p s_q = some ()) (h : Qv s s_p s_q power = some r) :
 GSpec Tryz.prog gl0 29 [.osl 0 s.length (Int.toNat s_p) (Int.toNat (s_q - s_p)), .int .i64 power] [some ⟨5, List.map R5 s⟩] (.tuple [.int .i64 r.1, .bool r.2.1]) [some ⟨5, List.map R5 r.2.2⟩] := by
 unfold Qv at h
 replace h := Z5 h
 refine Z1 (by kernel_rfl) Tryz.func29 Y Y<|?_
 intro w0 A W φ0
 refine Tr<|Ra Y<|Ra Y<|Za<|K2 0 1 Y<|Tr<|Rm Y<|Ra Y<|Za<|Zf<|K3 0 1 6 Y<|Tr<|Rm Y<|R2 JG Y<|Za<|K4 0 1 6 10 Y<|If h Y (fun h=>?_) fun h=>?_
 ·
  refine K3 0 1 6 Y<|Zq<|Rm Y<|Rm Y<|Rq Y (ZgE (ov Y) Y (List.length_map ..) ZL)<|bE h fun q h_q h=>Rq Y (ZdU (ov Y) (ov Y) h_q)<|bE h fun u h_u h=>bE h fun u2 h_u2 h=>Rq Y (ZlX (ov Y) Y Y ZL (ZbF h_s_z).1 on (oi<|ov Y) h_u)<|Ra Y<|Za<|I1 (fun o=>⟨[(1, .int .i64 power)], [some ⟨5, List.map R5 o⟩]⟩) h (fun h=>?_) fun o h=>?_
  ·
   refine K2 1 6 Y<|Tr<|Rm Y<|Rq Y (ZgE (ov Y) Y (List.length_map ..) ZL)<|Rm Y<|Za<|Ze<|?_
   obtain ⟨r1, hl1, ho1⟩ := QP h
   refine L2 (fun o2 i=>⟨[(1, .int .i64 power), (6, .osl 0 o2.length (Int.toNat (s_p + 0)) (Int.toNat ((s_p + q) - (s_p + 0)))), (17, .int .i64 ((Int.toNat ((s_p + q) - (s_p + 0)) : Nat) : Int)), (18, .int .i64 i)], [some ⟨5, List.map R5 o2⟩]⟩) hl1 (ES [some 0]<|sd 1 Y Y<|sr 6 Y (.osl _ _ _ Y)<|sd 17 Y Y<|sd 18 Y Y sn) fun n1 o2 i h=>?_
   unfold ZW at h
   refine Tr<|R2 ZJ Y<|Za<|Zf<|If h Y (fun h=>?_) fun h=>?_
   ·
    exact Zh<|Zf<|Ze<|K4 1 6 17 18 Y<|Tr<|Rm Y<|Ra Y<|Za<|K5 1 6 7 17 18 Y<|Zq<|Rm Y<|Rm Y<|bE h fun u3 h_u3 h=>bE h fun x2 h_x2 h=>Rq Y (Zf8 (ov Y) (ov Y) ZL Y Y (ZbF h_u2).1 h_u3 h_x2)<|Rx Y (Qu (u' := 255) (ov Y) (ov Y) (Zd tS5) Y Y h_x2 Y (Zb Y) Y)<|Za<|K4 1 6 17 18 Y<|Zq<|R2 ZI Y<|Rm Y<|Za<|⟨_, h, ES [some 0]<|sd 1 Y Y<|sr 6 Y (Zln (Eq.symm<|(List.length_set ..).trans Y) Y)<|sd 17 Y Y<|sd 18 Y Y sn⟩
   ·
    refine ZD<|?_
    replace h := lx h ▸ ho1
    exact ⟨_, h, ES [some 0]⟩
  ·
   refine Tr<|Rm Y<|R2 Zac Y<|Rq Y (ZiX (ov Y) (ov Y) Y)<|Rm Y<|R2 JR Y<|Ra Y<|Ra Y<|Za<|?_
   obtain rfl := rt h
   exact Zn<|XY [some 0] Y (.cons (.tmp Y)<|.cons (.tmp Y) .nil) (.cons Y (roM D5) .nil) Y Y<|Qr<|rlc (.dat Y)<|rlc (.dat Y) rln
 ·
  refine Zh<|I1 (fun o3=>⟨[(1, .int .i64 power)], [some ⟨5, List.map R5 o3⟩]⟩) h (fun h=>?_) fun o3 h=>?_
  ·
   refine K2 1 6 Y<|Tr<|Rm Y<|Rq Y (ZgE (ov Y) Y (List.length_map ..) ZL)<|Rm Y<|Za<|Ze<|?_
   obtain ⟨r2, hl2, ho2⟩ := QP h
   refine L2 (fun o4 i2=>⟨[(1, .int .i64 power), (6, .osl 0 o4.length (Int.toNat s_p) (Int.toNat (s_q - s_p))), (17, .int .i64 ((Int.toNat (s_q - s_p) : Nat) : Int)), (18, .int .i64 i2)], [some ⟨5, List.map R5 o4⟩]⟩) hl2 (ES [some 0]<|sd 1 Y Y<|sr 6 Y (.osl _ _ _ Y)<|sd 17 Y Y<|sd 18 Y Y sn) fun n2 o4 i2 h=>?_
   unfold ZV at h
   refine Tr<|R2 ZJ Y<|Za<|Zf<|If h Y (fun h=>?_) fun h=>?_
   ·
    exact Zh<|Zf<|Ze<|K4 1 6 17 18 Y<|Tr<|Rm Y<|Ra Y<|Za<|K5 1 6 7 17 18 Y<|Zq<|Rm Y<|Rm Y<|bE h fun u4 h_u4 h=>bE h fun x4 h_x4 h=>Rq Y (Zf8 (ov Y) (ov Y) ZL Y Y (ZbF h_s_z).1 h_u4 h_x4)<|Rx Y (Qu (u' := 255) (ov Y) (ov Y) (Zd tS5) Y Y h_x4 Y (Zb Y) Y)<|Za<|K4 1 6 17 18 Y<|Zq<|R2 ZI Y<|Rm Y<|Za<|⟨_, h, ES [some 0]<|sd 1 Y Y<|sr 6 Y (Zln (Eq.symm<|(List.length_set ..).trans Y) Y)<|sd 17 Y Y<|sd 18 Y Y sn⟩
   ·
    refine ZD<|?_
    replace h := lx h ▸ ho2
    exact ⟨_, h, ES [some 0]⟩
  ·
   refine Tr<|Rm Y<|R2 Zac Y<|Rq Y (ZiX (ov Y) (ov Y) Y)<|Rm Y<|R2 JR Y<|Ra Y<|Ra Y<|Za<|?_
   obtain rfl := rt h
   exact Zn<|XY [some 0] Y (.cons (.tmp Y)<|.cons (.tmp Y) .nil) (.cons Y (roM D5) .nil) Y Y<|Qr<|rlc (.dat Y)<|rlc (.dat Y) rln
theorem ZdY {s : List Int} {s_p : Int} {s_q : Int} {power : Int} {r : Int × Bool × Int × (List Int)} (h_s_z : slq s s_p s_q = some ()) (h : Qz s s_p s_q power = some r) :
 GSpec Tryz.prog gl0 10 [.osl 0 s.length (Int.toNat s_p) (Int.toNat (s_q - s_p)), .int .i64 power] [some ⟨5, List.map R5 s⟩] (.tuple [.int .i64 r.1, .bool r.2.1, .int .i64 r.2.2.1]) [some ⟨5, List.map R5 r.2.2.2⟩] := by
 unfold Qz at h
 replace h := Z5 h
 refine Z1 (by kernel_rfl) Tryz.func10 Y Y<|?_
 intro w0 A W φ0
 refine Tr<|Ra Y<|Ra Y<|Ra Y<|Za<|Zf<|K2 0 1 Y<|Tr<|Rm Y<|bE h fun y h_y h=>Rq Y (Zr (Z3 h_y)<|.cons (ov Y) (.b Y)<|.cons (ov Y) (.b Y)<|.cons (ov Y) (.b Y) .nil)<|R1 XW Y<|Za<|K3 0 1 11 Y<|If h Y (fun h=>?_) fun h=>?_
 ·
  refine K0<|Tr<|Ra Y<|Ra Y<|Ra Y<|Za<|?_
  obtain rfl := rt h
  exact Zn<|XY [some 0] Y (.cons (.tmp Y)<|.cons (.tmp Y)<|.cons (.tmp Y) .nil) (.cons Y (roM D5) .nil) Y Y<|Qr<|rlc (.dat Y)<|rlc (.dat Y)<|rlc (.dat Y) rln
 ·
  refine Zh<|K2 0 1 Y<|Tr<|Rm Y<|Rm Y<|bE h fun y2 h_y2 h=>Rx Y (Zv [0] (Zd9 (Zlv (by first | rfl | exact rfl) h_s_z) h_y2) (.cons (ov Y) (.osl _ _ _ Y)<|.cons (ov Y) (.dat Y) .nil) (.cons Y (roM D5) .nil) Y (.lent 0 (.inl Y) Y (roM D5) .nil) Y Y<|Qr<|rld Y)<|Rm Y<|Rq Y (Zg (ov Y) Y)<|Rq Y (Zg (ov Y) Y)<|Ra Y<|Ra Y<|Za<|K2 7 8 Y<|Tr<|Rm Y<|Rm Y<|Ra Y<|Ra Y<|Ra Y<|Za<|?_
  obtain rfl := rt h
  exact Zn<|XY [some 0] Y (.cons (.tmp Y)<|.cons (.tmp Y)<|.cons (.tmp Y) .nil) (.cons Y (roM D5) .nil) Y Y<|Qr<|rlc (.dat Y)<|rlc (.dat Y)<|rlc (.dat Y) rln
theorem ZgC {n : Int} {r : (List Int)} (h : Zce n = some r) :
 GSpec Tryz.prog gl0 61 [.int .i64 n] [] (.own 0 r.length) [some ⟨5, List.map R5 r⟩] := by
 unfold Zce at h
 replace h := Z5 h
 refine Z1 (by kernel_rfl) Tryz.func61 Y Y<|?_
 intro w0 A W φ0
 refine Tr<|Ra Y<|Za<|K1 0 Y<|Tr<|Rm Y<|bE h fun l h_l h=>Rx Y (Zab [none] (r := 0) (f := R5) (z0 := 0) Y (ov Y) (ov Y) ZL Y tZ5 Y Y h_l)<|Ra Y<|Za<|I1 (fun out=>⟨[(3, .own 0 out.length)], [some ⟨5, List.map R5 out⟩]⟩) h (fun h=>?_) fun out h=>?_
 ·
  refine K1 3 Y<|Tr<|Rm Y<|Rq Y (Zd2 (ov Y) Y Y ZL)<|Rm Y<|Za<|Ze<|?_
  obtain ⟨r1, hl1, ho1⟩ := QP h
  refine L2 (fun out2 i=>⟨[(3, .own 0 out2.length), (8, .int .i64 (l.length : Int)), (9, .int .i64 i)], [some ⟨5, List.map R5 out2⟩]⟩) hl1 (ES [some 0]) fun n1 out2 i h=>?_
  unfold JV at h
  refine Tr<|R2 ZJ Y<|Za<|Zf<|If h Y (fun h=>?_) fun h=>?_
  ·
   exact Zh<|Zf<|Ze<|K3 3 8 9 Y<|Tr<|Rm Y<|Ra Y<|Za<|K4 3 4 8 9 Y<|Zq<|Rm Y<|Rm Y<|bE h fun x h_x h=>Rq Y (ZY (ov Y) (ov Y) ZL Y Y h_x)<|Rx Y (Qu (u' := 255) (ov Y) (ov Y) (Zd tS5) Y Y h_x Y (Zb Y) Y)<|Za<|K3 3 8 9 Y<|Zq<|R2 ZI Y<|Rm Y<|Za<|⟨_, h, ES [some 0]<|sr 3 Y (Zcu (Eq.symm<|(List.length_set ..).trans Y) Y)<|sd 8 Y Y<|sd 9 Y Y sn⟩
  ·
   refine ZD<|?_
   replace h := lx h ▸ ho1
   exact ⟨_, h, ES [some 0]⟩
 ·
  refine Tr<|Rm Y<|Ra Y<|Za<|?_
  obtain rfl := rt h
  exact Zn<|XY [some 0] Y (.cons (.tmp Y) .nil) (.cons Y (roM D5) .nil) Y Y<|.own _ Y
theorem Zhy {s : List Int} {power : Int} {r : (List Int) × Int × Bool} (h : Zcj s power = some r) :
 CSpec Tryz.prog gl0 30 [.sl 5 (List.map R5 s), .int .i64 power] (.tuple [.sl 5 (List.map R5 r.1), .int .i64 r.2.1, .bool r.2.2]) := by
 unfold Zcj at h
 replace h := Z5 h
 refine So Tryz.func30 Y fun w0 A=>Tr<|Ra Y<|Ra Y<|Ra Y<|Za<|K2 0 1 Y<|Tr<|Rm Y<|Rl tZ_5 ZL Y<|Ra Y<|Za<|I1 (fun n=>⟨[(0, .sl 5 (List.map R5 s)), (1, .int .i64 power), (7, .int .i64 n)], []⟩) h (fun h=>?_) fun n h=>?_
 ·
  refine K3 0 1 7 Y<|Tr<|Rm Y<|R2 JG Y<|Za<|K4 0 1 7 12 Y<|If h Y (fun h=>?_) fun h=>?_
  ·
   exact K3 0 1 7 Y<|Zq<|Rm Y<|Rl tZ_5 ZL Y<|bE h fun q h_q h=>Rq Y (ZdU (ov Y) (ov Y) h_q)<|Ra Y<|Za<|⟨_, h, ES []⟩
  ·
   exact Zh<|⟨_, h, ES []⟩
 ·
  refine Zf<|Qm (cw := ⟨true, false, [], [20], []⟩) (by kernel_rfl)<|D1 0 Zc Y<|ZM 2 _ Y (by kernel_rfl) Y Y (fun hp'=>Zc<|ov Y)<|ZM 3 _ Y (by kernel_rfl) Y Y (fun hp'=>Zc<|ov Y)<|bE h fun l h_l h=>ZM 4 _ Y (by kernel_rfl) Y Y (fun hp'=>ZdH (ov Y) ZL (oi<|ov Y) on h_l)<|bE h fun y h_y h=>Do 1 Y (Zv [] (ZgC h_y) (.cons (ov Y) (.dat Y) .nil) .nil Y (.lent 0 (.inr ⟨Nat.le_of_ble_eq_true Y, Y⟩) Y (roM D5) .nil) Y Y<|.own _<|.inr ⟨Nat.le_of_ble_eq_true Y, Y⟩)<|bE h fun l2 h_l2 h=>Do 5 Y (ZdE (ov Y) (Qt (ov Y) tZ_5) ZL Y Y (fun _=>Zb Y) Y h_l2)<|D1 6 Qh Y<|Dd<|Zf<|K2 1 8 Y<|Tr<|Rm Y<|R2 JG Y<|Za<|K3 1 8 23 Y<|If h Y (fun h=>?_) fun h=>?_
  ·
   refine K1 8 Y<|Tr<|Rm Y<|Ra Y<|Ra Y<|Ra Y<|Za<|?_
   obtain rfl := rt h
   exact Zn (ZN Y (.three (.tmp Y<|View.ownM Y Y D5) (rb Y)<|rb Y))
  ·
   refine Zh<|K2 1 8 Y<|Tr<|Rm Y<|Rm Y<|R2 Zac Y<|Ra Y<|Ra Y<|Ra Y<|Za<|?_
   obtain rfl := rt h
   exact Zn (ZN Y (.three (.tmp Y<|View.ownM Y Y D5) (rb Y)<|rb Y))
theorem Zfp {s : List Int} {power : Int} {r : (List Int) × Int × Bool × Int} (h : X0 s power = some r) :
 CSpec Tryz.prog gl0 11 [.sl 5 (List.map R5 s), .int .i64 power] (.tuple [.sl 5 (List.map R5 r.1), .int .i64 r.2.1, .bool r.2.2.1, .int .i64 r.2.2.2]) := by
 unfold X0 at h
 replace h := Z5 h
 refine So Tryz.func11 Y fun w0 A=>Tr<|Ra Y<|Ra Y<|Ra Y<|Ra Y<|Za<|Zf<|K2 0 1 Y<|Tr<|Rm Y<|bE h fun y h_y h=>Rq Y (Zr (Zeh h_y)<|.cons (ov Y) (.b Y)<|.cons (ov Y) (.b Y)<|.cons (ov Y) (.b Y) .nil)<|Za<|K3 0 1 12 Y<|If h Y (fun h=>?_) fun h=>?_
 ·
  refine K1 0 Y<|Tr<|Rm Y<|Ra Y<|Ra Y<|Ra Y<|Ra Y<|Za<|?_
  obtain rfl := rt h
  exact Zn (ZN Y (.four (rb Y) (rb Y) (rb Y)<|rb Y))
 ·
  refine Zh<|K2 0 1 Y<|Tr<|Rm Y<|Rm Y<|bE h fun y2 h_y2 h=>Rq Y (Zr (Zhy h_y2)<|.cons (ov Y) (.b Y)<|.cons (ov Y) (.b Y) .nil)<|Rm Y<|Rq Y (Zg (ov Y) Y)<|Rq Y (Zg (ov Y) Y)<|Rq Y (Zg (ov Y) Y)<|Ra Y<|Ra Y<|Ra Y<|Za<|K3 8 9 10 Y<|Tr<|Rm Y<|Rm Y<|Rm Y<|Ra Y<|Ra Y<|Ra Y<|Ra Y<|Za<|?_
  obtain rfl := rt h
  exact Zn (ZN Y (.four (rb Y) (rb Y) (rb Y)<|rb Y))
theorem Zjp {n : Int} {r : Bool} (h : ZeQ n = some r) :
 CSpec Tryz.prog gl0 110 [.int .i64 n] (.bool r) := by
 unfold ZeQ at h
 replace h := Z5 h
 refine So Tryz.func110 Y fun w0 A=>Tr<|Ra Y<|Za<|K1 0 Y<|Tr<|Ra Y<|Za<|I1 (fun ones=>⟨[(3, .int .i64 ones)], []⟩) h (fun h=>?_) fun ones h=>?_
 ·
  refine Ze<|?_
  obtain ⟨r1, hl1, ho1⟩ := QP h
  refine L2 (fun n2 ones2=>⟨[(0, .int .i64 n2), (3, .int .i64 ones2)], []⟩) hl1 (ES []) fun n1 n2 ones2 h=>?_
  unfold Zdj at h
  refine Zf<|Tr<|Rm Y<|R2 JR Y<|Za<|K3 0 3 5 Y<|If h Y (fun h=>?_) fun h=>?_
  ·
   exact Zh<|Zf<|Ze<|K2 0 3 Y<|Zq<|Rm Y<|Rm Y<|bE h fun q h_q h=>Rq Y (Zaq (ov Y) (ov Y) h_q)<|R2 ZI Y<|Ra Y<|Za<|K2 0 3 Y<|Zq<|Rm Y<|bE h fun q2 h_q2 h=>Rq Y (ZdU (ov Y) (ov Y) h_q2)<|Ra Y<|Za<|⟨_, h, ES []⟩
  ·
   refine ZD<|?_
   replace h := lx h ▸ ho1
   exact ⟨_, h, ES []⟩
 ·
  refine Tr<|Rm Y<|bE h fun q3 h_q3 h=>Rq Y (Zaq (ov Y) (ov Y) h_q3)<|R2 JG Y<|Ra Y<|Za<|?_
  obtain rfl := rt h
  exact Zn (ZN Y (.one<|rb Y))
theorem ZcA {data : Int} {r : Int} (h : Za0 data = some r) :
 CSpec Tryz.prog gl0 92 [.int .i64 data] (.int .i64 r) := by
 unfold Za0 at h
 replace h := Z5 h
 refine So Tryz.func92 Y fun w0 A=>Tr<|Ra Y<|Za<|Zf<|K1 0 Y<|Tr<|Rm Y<|bE h fun y h_y h=>Rq Y (Zr (Zjp h_y)<|.cons (ov Y) (.b Y) .nil)<|Za<|K2 0 4 Y<|If h Y (fun h=>?_) fun h=>?_
 ·
  refine K1 0 Y<|Tr<|Rm Y<|Ra Y<|Za<|?_
  obtain rfl := rt h
  exact Zn (ZN Y (.one<|rb Y))
 ·
  refine Zh<|K1 0 Y<|Tr<|Rm Y<|R2 ZI Y<|Ra Y<|Za<|?_
  obtain rfl := rt h
  exact Zn (ZN Y (.one<|rb Y))
theorem ZgH {f : Vector Int 64} {r : Int} (h : Zat f = some r) :
 CSpec Tryz.prog gl0 90 [.agg (List.map C44 f.toList)] (.int .i64 r) := by
 unfold Zat at h
 replace h := Z5 h
 refine So Tryz.func90 Y fun w0 A=>Tr<|Rq Y (Zdu (cva<|ov Y) arL tZ_46<|arD fun _ => Y)<|Ra Y<|Za<|K2 1 2 Y<|Tr<|bE h fun x h_x h=>Rq Y (QS (ov Y) (ov Y) Zan h_x)<|Rq Y (Zi (ov Y) Zbb<|Qx<|Xw (o := 0) (o' := ((Int.toNat 1) * 1)) (Zs arL)<|Xs h_x)<|Rq Y (Qe (ov Y) Zda tI3 Y)<|bE h fun q h_q h=>Rq Y (Zaq (ov Y) (ov Y) h_q)<|bE h fun x2 h_x2 h=>Rq Y (QS (ov Y) (ov Y) Zan h_x2)<|Rq Y (Zi (ov Y) Zbb<|Qx<|Xw (o := 0) (o' := ((Int.toNat 2) * 1)) (Zs arL)<|Xs h_x2)<|Rq Y (Qe (ov Y) Zda tI3 Y)<|bE h fun q2 h_q2 h=>Rq Y (Zaq (ov Y) (ov Y) h_q2)<|R2 ZfQ Y<|R2 ZI Y<|Ra Y<|Za<|?_
 obtain rfl := rt h
 exact Zn (ZN Y (.one<|rb Y))
theorem Zh5 {number : Int} {r : Int} (h : Zb8 number = some r) :
 CSpec Tryz.prog gl0 93 [.int .i64 number] (.int .i64 r) := by
 unfold Zb8 at h
 replace h := Z5 h
 refine So Tryz.func93 Y fun w0 A=>Tr<|Ra Y<|Za<|Tr<|R_q (.agg<|List.map C3 (#v[583, 1464, 2631, 3512] : Vector Int 4).toList) Y (ZdG (ys := [_, _, _, _]) Zlz Zmp (.cons (cvs (ov Y)<|Zj Y)<|.cons (cvs (ov Y)<|Zj Y)<|.cons (cvs (ov Y)<|Zj Y)<|.cons (cvs (ov Y)<|Zj Y) .nil) Y)<|Rm Y<|bE h fun q h_q h=>Rq Y (Zaq (ov Y) (ov Y) h_q)<|bE h fun x h_x h=>Rq Y (Ziu (ov Y) (ov Y) Zlz tS3 h_x)<|Ra Y<|Za<|?_
 obtain rfl := rt h
 exact Zn (ZN Y (.one<|rb Y))
theorem Zjk {f : Vector Int 64} {r : Int} (h : ZeG f = some r) :
 CSpec Tryz.prog gl0 94 [.agg (List.map C44 f.toList)] (.int .i64 r) := by
 unfold ZeG at h
 replace h := Z5 h
 refine So Tryz.func94 Y fun w0 A=>Tr<|Rq Y (Zdu (cva<|ov Y) arL tZ_46<|arD fun _ => Y)<|Ra Y<|Za<|K1 1 Y<|Tr<|Ra Y<|Za<|I1 (fun x=>⟨[(3, .int .i64 x)], []⟩) h (fun h=>?_) fun x h=>?_
 ·
  refine Tr<|Ra Y<|Za<|Ze<|?_
  obtain ⟨r1, hl1, ho1⟩ := QP h
  refine L2 (fun x2 i=>⟨[(1, .rp (List.map C44 f.toList) 0), (3, .int .i64 x2), (4, .int .i64 i)], []⟩) hl1 (ES []) fun n1 x2 i h=>?_
  unfold Zdq at h
  refine Zf<|Tr<|Rm Y<|R2 Zik Y<|Za<|K4 1 3 4 6 Y<|If h Y (fun h=>?_) fun h=>?_
  ·
   exact Zh<|Zf<|Ze<|K3 1 3 4 Y<|Zq<|Rm Y<|Rm Y<|bE h fun x3 h_x3 h=>Rq Y (QS (ov Y) (ov Y) Zan h_x3)<|Rq Y (Zi (ov Y) Zbb<|Qx<|Xw (o := 0) (o' := (i.toNat * 1)) (Zs arL)<|Xs h_x3)<|Rq Y (Qe (ov Y) Zda tI3 Y)<|bE h fun q h_q h=>Rq Y (Zaq (ov Y) (ov Y) h_q)<|R2 ZiM Y<|Ra Y<|Za<|K3 1 3 4 Y<|Zq<|Rm Y<|R2 ZI Y<|Ra Y<|Za<|⟨_, h, ES []⟩
  ·
   refine ZD<|?_
   replace h := lx h ▸ ho1
   exact ⟨_, h, ES []⟩
 ·
  refine Tr<|Rm Y<|Ra Y<|Za<|?_
  obtain rfl := rt h
  exact Zn (ZN Y (.one<|rb Y))
theorem Zh6 {f : Vector Int 64} {r : Int} (h : Zc7 f = some r) :
 CSpec Tryz.prog gl0 111 [.agg (List.map C44 f.toList)] (.int .i64 r) := by
 unfold Zc7 at h
 replace h := Z5 h
 refine So Tryz.func111 Y fun w0 A=>Tr<|Rq Y (Zdu (cva<|ov Y) arL tZ_46<|arD fun _ => Y)<|Ra Y<|Za<|K1 1 Y<|Tr<|Ra Y<|Za<|I1 (fun rest=>⟨[(3, .int .i64 rest)], []⟩) h (fun h=>?_) fun rest h=>?_
 ·
  refine Tr<|Ra Y<|Za<|Ze<|?_
  obtain ⟨r1, hl1, ho1⟩ := QP h
  refine L2 (fun rest2 i=>⟨[(1, .rp (List.map C44 f.toList) 0), (3, .int .i64 rest2), (4, .int .i64 i)], []⟩) hl1 (ES []) fun n1 rest2 i h=>?_
  unfold Zb6 at h
  refine Zf<|Tr<|Rm Y<|R2 ZJ Y<|Za<|K4 1 3 4 7 Y<|If h Y (fun h=>?_) fun h=>?_
  ·
   refine Zh<|Zf<|Ze<|K3 1 3 4 Y<|Tr<|Ra Y<|Za<|I1 (fun bit=>⟨[(1, .rp (List.map C44 f.toList) 0), (3, .int .i64 rest2), (4, .int .i64 i), (5, .int .i64 bit)], []⟩) h (fun h=>?_) fun bit h=>?_
   ·
    refine Tr<|Rm Y<|R2 ZJ Y<|Za<|K5 1 3 4 5 11 Y<|If h Y (fun h=>?_) fun h=>?_
    ·
     exact K4 1 3 4 5 Y<|Zq<|Rm Y<|bE h fun q h_q h=>Rq Y (ZdU (ov Y) (ov Y) h_q)<|bE h fun x h_x h=>Rq Y (QS (ov Y) (ov Y) Zan h_x)<|Rq Y (Zi (ov Y) Zbb<|Qx<|Xw (o := 0) (o' := (q.toNat * 1)) (Zs arL)<|Xs h_x)<|Rq Y (Qe (ov Y) Zda tI3 Y)<|Rm Y<|bE h fun q2 h_q2 h=>Rq Y (Zaq (ov Y) (ov Y) h_q2)<|R2 Zac Y<|bE h fun q3 h_q3 h=>Rq Y (Zao (ov Y) (ov Y) h_q3)<|R2 Jn Y<|Ra Y<|Za<|⟨_, h, ES []⟩
    ·
     exact Zh<|⟨_, h, ES []⟩
   ·
    refine Tr<|Rm Y<|R2 ZfQ Y<|Rm Y<|R2 ZI Y<|Ra Y<|Za<|K3 1 3 4 Y<|Tr<|Rm Y<|R2 Zh1 Y<|Za<|K4 1 3 4 27 Y<|If h Y (fun h=>?_) fun h=>?_
    ·
     exact K3 1 3 4 Y<|Zq<|Rm Y<|R2 ZiM Y<|Ra Y<|Za<|K3 1 3 4 Y<|Zq<|Rm Y<|R2 ZI Y<|Ra Y<|Za<|⟨_, h, ES []⟩
    ·
     exact Zh<|K3 1 3 4 Y<|Zq<|Rm Y<|R2 ZI Y<|Ra Y<|Za<|⟨_, h, ES []⟩
  ·
   refine ZD<|?_
   replace h := lx h ▸ ho1
   exact ⟨_, h, ES []⟩
 ·
  refine Tr<|Rm Y<|Ra Y<|Za<|?_
  obtain rfl := rt h
  exact Zn (ZN Y (.one<|rb Y))
theorem Zhg {f : Vector Int 64} {r : (Vector Int 64)} (h : Zbh f = some r) :
 CSpec Tryz.prog gl0 95 [.agg (List.map C44 f.toList)] (.agg (List.map C44 r.toList)) := by
 unfold Zbh at h
 replace h := Z5 h
 refine So Tryz.func95 Y fun w0 A=>Tr<|Rx Y (ZjW 0 Y (ov Y) X8 arL)<|Rx Y (Qg (row := (List.map C44 (Vector.replicate 64 0).toList)) 1 Y Zgm Y tZ_46)<|Za<|K2 1 2 Y<|Tr<|Rq Y (QE (ov Y) Y Y Y X8 (QL<|Zs arL) arL (hns := (nsM fun _ => Y)))<|bE h fun y h_y h=>Rq Y (Zr (Zh6 h_y)<|.cons (ov Y) (.aggB<|arD fun _ => Y) .nil)<|Ra Y<|Za<|K3 1 2 3 Y<|Tr<|Rm Y<|bE h fun q h_q h=>Rq Y (ZdU (ov Y) (ov Y) h_q)<|bE h fun y2 h_y2 h=>Rq Y (Zr (ZcA h_y2)<|.cons (ov Y) (.b Y) .nil)<|Rq Y (Qe (ov Y) tI3 Zda Y)<|Rm Y<|bE h fun q2 h_q2 h=>Rq Y (Zaq (ov Y) (ov Y) h_q2)<|bE h fun y3 h_y3 h=>Rq Y (Zr (ZcA h_y3)<|.cons (ov Y) (.b Y) .nil)<|Rq Y (Qe (ov Y) tI3 Zda Y)<|bE h fun x h_x h=>Rq Y (JC (ov Y) (ov Y) Zan Y Y h_x)<|Rx Y (Zm (ov Y) (ov Y) (Zd Zbb) Y Y Y (arB h_x) (Zb Y)<|arS h_x)<|bE h fun x2 h_x2 h=>Rq Y (JC (ov Y) (ov Y) Zan Y Y h_x2)<|Rx Y (Zm (ov Y) (ov Y) (Zd Zbb) Y Y Y (arB h_x2) (Zb Y)<|arS h_x2)<|Za<|K2 1 2 Y<|Tr<|Rq Y (QE (ov Y) Y Y Y X8 (QL<|Zs arL) arL (hns := (nsM fun _ => Y)))<|Rx Y (Zm (ov Y) (ov Y) (Zy X8 arL) Y Y Y (ZaP (Zs arL) arL) (Zb<|arC fun _ => Y)<|Jl<|Eq.trans arL<|Eq.symm arL)<|Za<|?_
 obtain rfl := rt h
 exact Zn (ZN Y (.one<|.agg Y Y Y Y X8 (QL<|Zs arL) arL (pwB<|arD fun _ => Y) (hns := (nsM fun _ => Y))))
theorem Zht {f : Vector Int 64} {r : (Vector Int 64)} (h : Zch f = some r) :
 CSpec Tryz.prog gl0 62 [.agg (List.map C44 f.toList)] (.agg (List.map C44 r.toList)) := by
 unfold Zch at h
 replace h := Z5 h
 refine So Tryz.func62 Y fun w0 A=>Tr<|Rx Y (ZjW 0 Y (ov Y) X8 arL)<|Rx Y (Qg (row := (List.map C44 (Vector.replicate 64 0).toList)) 1 Y Zgm Y tZ_46)<|Za<|I1 (fun f2=>⟨[(1, .ptr 0 1 0 0), (2, .ptr 1 1 0 0)], [some ⟨46, [(List.map C44 f2.toList)]⟩, some ⟨46, [(List.map C44 (Vector.replicate 64 0).toList)]⟩]⟩) h (fun h=>?_) fun f2 h=>?_
 ·
  refine K2 1 2 Y<|Tr<|Ra Y<|Za<|Ze<|?_
  obtain ⟨r1, hl1, ho1⟩ := QP h
  refine L2 (fun f3 i=>⟨[(1, .ptr 0 1 0 0), (2, .ptr 1 1 0 0), (3, .int .i64 i)], [some ⟨46, [(List.map C44 f3.toList)]⟩, some ⟨46, [(List.map C44 (Vector.replicate 64 0).toList)]⟩]⟩) hl1 (ES [some 0, some 1]) fun n1 f3 i h=>?_
  unfold Zbd at h
  refine Zf<|Tr<|Rm Y<|R2 Zik Y<|Za<|K4 1 2 3 5 Y<|If h Y (fun h=>?_) fun h=>?_
  ·
   exact Zh<|Zf<|Ze<|K3 1 2 3 Y<|Zq<|Rm Y<|Rm Y<|bE h fun x h_x h=>Rq Y (JC (ov Y) (ov Y) Zan Y Y h_x)<|Rq Y (Zt (ov Y) Y Y Y Zbb<|Qx<|Xw (o := 0) (o' := (i.toNat * 1)) (Zs arL)<|Xs h_x)<|Rq Y (Qe (ov Y) Zda tI3 Y)<|bE h fun q h_q h=>Rq Y (Zaq (ov Y) (ov Y) h_q)<|bE h fun y h_y h=>Rq Y (Zr (ZcA h_y)<|.cons (ov Y) (.b Y) .nil)<|Rq Y (Qe (ov Y) tI3 Zda Y)<|bE h fun x2 h_x2 h=>Rq Y (JC (ov Y) (ov Y) Zan Y Y h_x2)<|Rx Y (Zm (ov Y) (ov Y) (Zd Zbb) Y Y Y (arB h_x2) (Zb Y)<|arS h_x2)<|Za<|K3 1 2 3 Y<|Zq<|Rm Y<|R2 ZI Y<|Ra Y<|Za<|⟨_, h, ES [some 0, some 1]⟩
  ·
   refine ZD<|?_
   replace h := lx h ▸ ho1
   exact ⟨_, h, ES [some 0, some 1]⟩
 ·
  refine Tr<|Rq Y (QE (ov Y) Y Y Y X8 (QL<|Zs arL) arL (hns := (nsM fun _ => Y)))<|bE h fun y2 h_y2 h=>Rq Y (Zr (ZgH h_y2)<|.cons (ov Y) (.aggB<|arD fun _ => Y) .nil)<|bE h fun y3 h_y3 h=>Rq Y (Zr (Zh5 h_y3)<|.cons (ov Y) (.b Y) .nil)<|Rq Y (Qe (ov Y) tI3 Zda Y)<|bE h fun x3 h_x3 h=>Rq Y (JC (ov Y) (ov Y) Zan Y Y h_x3)<|Rx Y (Zm (ov Y) (ov Y) (Zd Zbb) Y Y Y (arB h_x3) (Zb Y)<|arS h_x3)<|Za<|K2 1 2 Y<|Tr<|Rq Y (QE (ov Y) Y Y Y X8 (QL<|Zs arL) arL (hns := (nsM fun _ => Y)))<|bE h fun y4 h_y4 h=>Rq Y (Zr (Zjk h_y4)<|.cons (ov Y) (.aggB<|arD fun _ => Y) .nil)<|bE h fun y5 h_y5 h=>Rq Y (Zr (ZcA h_y5)<|.cons (ov Y) (.b Y) .nil)<|Rq Y (Qe (ov Y) tI3 Zda Y)<|bE h fun x4 h_x4 h=>Rq Y (JC (ov Y) (ov Y) Zan Y Y h_x4)<|Rx Y (Zm (ov Y) (ov Y) (Zd Zbb) Y Y Y (arB h_x4) (Zb Y)<|arS h_x4)<|Za<|K2 1 2 Y<|Tr<|Rq Y (QE (ov Y) Y Y Y X8 (QL<|Zs arL) arL (hns := (nsM fun _ => Y)))<|bE h fun y6 h_y6 h=>Rq Y (Zr (Zhg h_y6)<|.cons (ov Y) (.aggB<|arD fun _ => Y) .nil)<|Rx Y (Zm (ov Y) (ov Y) (Zy X8 arL) Y Y Y (ZaP (Zs arL) arL) (Zb<|arC fun _ => Y)<|Jl<|Eq.trans arL<|Eq.symm arL)<|Za<|?_
  obtain rfl := rt h
  exact Zn (ZN Y (.one<|.agg Y Y Y Y X8 (QL<|Zs arL) arL (pwB<|arD fun _ => Y) (hns := (nsM fun _ => Y))))
theorem Zjb {number : Int} {data : List Int} {r : (Vector Int 64) × Int} (h : ZeP number data = some r) :
 CSpec Tryz.prog gl0 31 [.int .i64 number, .sl 3 (List.map R3 data)] (.tuple [.agg (List.map C44 r.1.toList), .int .i64 r.2]) := by
 unfold ZeP at h
 replace h := Z5 h
 refine So Tryz.func31 Y fun w0 A=>Tr<|Rx Y (Qg (row := (List.map C44 (Vector.replicate 64 0).toList)) 0 Y Zgm Y tZ_46)<|Ra Y<|Za<|Zf<|K3 0 1 4 Y<|Tr<|Rm Y<|R2 ZJ Y<|Rm Y<|Rq Y (.guarded ((decide (number < 0)) == false) Y Y Y Y fun h => Zc<|ov Y)<|Rq Y (.guarded ((decide (number < 0)) == false) Y Y Y Y fun h => Zh1 (ow Y h)<|ov Y)<|Rq Y (Zdw (ov Y) fun hp=>ow Y<|gF hp)<|Za<|K4 0 1 4 14 Y<|If h Y (fun h=>?_) fun h=>?_
 ·
  refine K1 4 Y<|Tr<|R_q (.agg<|List.map C44 (#v[0, 0, 0, 0, 0, 0, 0, 0, 0, 0, 0, 0, 0, 0, 0, 0, 0, 0, 0, 0, 0, 0, 0, 0, 0, 0, 0, 0, 0, 0, 0, 0, 0, 0, 0, 0, 0, 0, 0, 0, 0, 0, 0, 0, 0, 0, 0, 0, 0, 0, 0, 0, 0, 0, 0, 0, 0, 0, 0, 0, 0, 0, 0, 0] : Vector Int 64).toList) Y (ZdG (ys := [_, _, _, _, _, _, _, _, _, _, _, _, _, _, _, _, _, _, _, _, _, _, _, _, _, _, _, _, _, _, _, _, _, _, _, _, _, _, _, _, _, _, _, _, _, _, _, _, _, _, _, _, _, _, _, _, _, _, _, _, _, _, _, _]) Zan Zgm .nil Y)<|Rx Y (Zm (ov Y) (ov Y) (Zy X8 arL) Y Y Y (ZaP (Zs arL) arL) (Zb<|arC fun _ => Y)<|Jl<|Eq.trans arL<|Eq.symm arL)<|Ra Y<|Za<|?_
  obtain rfl := rt h
  exact Zn (ZN Y (.two (.agg Y Y Y Y X8 (QL<|Zs arL) arL (pwB<|arD fun _ => Y) (hns := (nsM fun _ => Y)))<|rb Y))
 ·
  refine Zh<|Zf<|K3 0 1 4 Y<|Tr<|Rm Y<|Rl tZ_3 QK Y<|R2 Jf Y<|Za<|K4 0 1 4 18 Y<|If h Y (fun h=>?_) fun h=>?_
  ·
   refine K1 4 Y<|Tr<|R_q (.agg<|List.map C44 (#v[0, 0, 0, 0, 0, 0, 0, 0, 0, 0, 0, 0, 0, 0, 0, 0, 0, 0, 0, 0, 0, 0, 0, 0, 0, 0, 0, 0, 0, 0, 0, 0, 0, 0, 0, 0, 0, 0, 0, 0, 0, 0, 0, 0, 0, 0, 0, 0, 0, 0, 0, 0, 0, 0, 0, 0, 0, 0, 0, 0, 0, 0, 0, 0] : Vector Int 64).toList) Y (ZdG (ys := [_, _, _, _, _, _, _, _, _, _, _, _, _, _, _, _, _, _, _, _, _, _, _, _, _, _, _, _, _, _, _, _, _, _, _, _, _, _, _, _, _, _, _, _, _, _, _, _, _, _, _, _, _, _, _, _, _, _, _, _, _, _, _, _]) Zan Zgm .nil Y)<|Rx Y (Zm (ov Y) (ov Y) (Zy X8 arL) Y Y Y (ZaP (Zs arL) arL) (Zb<|arC fun _ => Y)<|Jl<|Eq.trans arL<|Eq.symm arL)<|Ra Y<|Za<|?_
   obtain rfl := rt h
   exact Zn (ZN Y (.two (.agg Y Y Y Y X8 (QL<|Zs arL) arL (pwB<|arD fun _ => Y) (hns := (nsM fun _ => Y)))<|rb Y))
  ·
   refine Zh<|K3 0 1 4 Y<|Tr<|R_q (.agg<|List.map C44 (#v[0, 0, 0, 0, 0, 0, 0, 0, 0, 0, 0, 0, 0, 0, 0, 0, 0, 0, 0, 0, 0, 0, 0, 0, 0, 0, 0, 0, 0, 0, 0, 0, 0, 0, 0, 0, 0, 0, 0, 0, 0, 0, 0, 0, 0, 0, 0, 0, 0, 0, 0, 0, 0, 0, 0, 0, 0, 0, 0, 0, 0, 0, 0, 0] : Vector Int 64).toList) Y (ZdG (ys := [_, _, _, _, _, _, _, _, _, _, _, _, _, _, _, _, _, _, _, _, _, _, _, _, _, _, _, _, _, _, _, _, _, _, _, _, _, _, _, _, _, _, _, _, _, _, _, _, _, _, _, _, _, _, _, _, _, _, _, _, _, _, _, _]) Zan Zgm .nil Y)<|Rx Y (Qg (row := (List.map C44 (Vector.replicate 64 0).toList)) 1 Y Zgm Y tZ_46)<|Rx Y (Zm (ov Y) (ov Y) (Zy X8 arL) Y Y Y (ZaP (Zs arL) arL) (Zb<|arC fun _ => Y)<|Jl<|Eq.trans arL<|Eq.symm arL)<|Za<|K4 0 1 4 6 Y<|Tr<|Rm Y<|bE h fun q h_q h=>Rq Y (Zaq (ov Y) (ov Y) h_q)<|Rq Y (Qe (ov Y) tI3 Zda Y)<|Rm Y<|bE h fun q2 h_q2 h=>Rq Y (ZdU (ov Y) (ov Y) h_q2)<|Rq Y (Qe (ov Y) tI3 Zda Y)<|bE h fun x h_x h=>Rq Y (JC (ov Y) (ov Y) Zan Y Y h_x)<|Rx Y (Zm (ov Y) (ov Y) (Zd Zbb) Y Y Y (arB h_x) (Zb Y)<|arS h_x)<|bE h fun x2 h_x2 h=>Rq Y (JC (ov Y) (ov Y) Zan Y Y h_x2)<|Rx Y (Zm (ov Y) (ov Y) (Zd Zbb) Y Y Y (arB h_x2) (Zb Y)<|arS h_x2)<|Za<|J1 (fun j => (.inr j)) (fun f=>⟨[(4, .ptr 0 1 0 0), (6, .ptr 1 1 0 0)], [some ⟨46, [(List.map C44 (Vector.replicate 64 0).toList)]⟩, some ⟨46, [(List.map C44 f.toList)]⟩]⟩) h (fun h=>?_) fun f h=>?_
   ·
    refine K3 1 4 6 Y<|Tr<|Rm Y<|Rl tZ_3 QK Y<|Rm Y<|Za<|Ze<|?_
    obtain ⟨r1, hl1, ho1⟩ := QP h
    refine L2 (fun f2 i=>⟨[(4, .ptr 0 1 0 0), (6, .ptr 1 1 0 0), (29, .sl 3 (List.map R3 data)), (30, .int .i64 (data.length : Int)), (31, .int .i64 i)], [some ⟨46, [(List.map C44 (Vector.replicate 64 0).toList)]⟩, some ⟨46, [(List.map C44 f2.toList)]⟩]⟩) hl1 (ES [some 0, some 1]) fun n1 f2 i h=>?_
    unfold Zdi at h
    refine Tr<|R2 ZJ Y<|Za<|Zf<|If h Y (fun h=>?_) fun h=>?_
    ·
     refine Zh<|Zf<|Ze<|K5 4 6 29 30 31 Y<|Tr<|Rm Y<|bE h fun x3 h_x3 h=>Rq Y (Qo (ov Y) (ov Y) QK h_x3)<|Rq Y (Zi (ov Y) tS3 Y)<|Ra Y<|Ra Y<|Za<|Zf<|K7 4 6 7 8 29 30 31 Y<|Tr<|Rm Y<|R2 ZJ Y<|Rm Y<|Rq Y (.guarded ((decide (x3 < 0)) == false) Y Y Y Y fun h => Zc<|ov Y)<|Rq Y (.guarded ((decide (x3 < 0)) == false) Y Y Y Y fun h => JR (ow Y h)<|ov Y)<|Rq Y (Zdw (ov Y) fun hp=>ow Y<|gF hp)<|Za<|K8 4 6 7 8 29 30 31 41 Y<|If h Y (fun h=>?_) fun h=>?_
     ·
      refine K1 4 Y<|Tr<|R_q (.agg<|List.map C44 (#v[0, 0, 0, 0, 0, 0, 0, 0, 0, 0, 0, 0, 0, 0, 0, 0, 0, 0, 0, 0, 0, 0, 0, 0, 0, 0, 0, 0, 0, 0, 0, 0, 0, 0, 0, 0, 0, 0, 0, 0, 0, 0, 0, 0, 0, 0, 0, 0, 0, 0, 0, 0, 0, 0, 0, 0, 0, 0, 0, 0, 0, 0, 0, 0] : Vector Int 64).toList) Y (ZdG (ys := [_, _, _, _, _, _, _, _, _, _, _, _, _, _, _, _, _, _, _, _, _, _, _, _, _, _, _, _, _, _, _, _, _, _, _, _, _, _, _, _, _, _, _, _, _, _, _, _, _, _, _, _, _, _, _, _, _, _, _, _, _, _, _, _]) Zan Zgm .nil Y)<|Rx Y (Zm (ov Y) (ov Y) (Zy X8 arL) Y Y Y (ZaP (Zs arL) arL) (Zb<|arC fun _ => Y)<|Jl<|Eq.trans arL<|Eq.symm arL)<|Ra Y<|Za<|?_
      replace h := lx h ▸ ho1
      obtain rfl := rt h
      exact Zn (ZN Y (.two (.agg Y Y Y Y X8 (QL<|Zs arL) arL (pwB<|arD fun _ => Y) (hns := (nsM fun _ => Y)))<|rb Y))
     ·
      exact Zh<|K7 4 6 7 8 29 30 31 Y<|Zq<|Rm Y<|R2 ZI Y<|Rm Y<|Rq Y (Qe (ov Y) tI3 Zda Y)<|bE h fun x4 h_x4 h=>Rq Y (JC (ov Y) (ov Y) Zan Y Y h_x4)<|Rx Y (Zm (ov Y) (ov Y) (Zd Zbb) Y Y Y (arB h_x4) (Zb Y)<|arS h_x4)<|Za<|K5 4 6 29 30 31 Y<|Zq<|R2 ZI Y<|Rm Y<|Za<|⟨_, h, ES [some 0, some 1]⟩
    ·
     refine ZD<|?_
     replace h := lx h ▸ ho1
     exact ⟨_, h, ES [some 0, some 1]⟩
   ·
    replace h := elr h
    replace h := t1i h
    refine Tr<|Rq Y (QE (ov Y) Y Y Y X8 (QL<|Zs arL) arL (hns := (nsM fun _ => Y)))<|bE h fun y h_y h=>Rq Y (Zr (Zht h_y)<|.cons (ov Y) (.aggB<|arD fun _ => Y) .nil)<|Rx Y (Zm (ov Y) (ov Y) (Zy X8 arL) Y Y Y (ZaP (Zs arL) arL) (Zb<|arC fun _ => Y)<|Jl<|Eq.trans arL<|Eq.symm arL)<|Ra Y<|Za<|?_
    obtain rfl := rt h
    exact Zn (ZN Y (.two (.agg Y Y Y Y X8 (QL<|Zs arL) arL (pwB<|arD fun _ => Y) (hns := (nsM fun _ => Y)))<|rb Y))
theorem ZT {slots : Int} {r : Int} (h : Xq slots = some r) :
 CSpec Tryz.prog gl0 64 [.int .i64 slots] (.int .i64 r) := by
 unfold Xq at h
 replace h := Z5 h
 refine So Tryz.func64 Y fun w0 A=>Tr<|Ra Y<|Za<|Tr<|Rm Y<|R2 ZfQ Y<|R2 ZI Y<|Ra Y<|Za<|?_
 obtain rfl := rt h
 exact Zn (ZN Y (.one<|rb Y))
theorem Zii {x : Int} {y : Int} {r : Int × Int} (h : ZcT x y = some r) :
 CSpec Tryz.prog gl0 115 [.int .u64 x, .int .u64 y] (.tuple [.int .u64 r.1, .int .u64 r.2]) := by
 unfold ZcT at h
 replace h := Z5 h
 refine So Tryz.func115 Y fun w0 A=>Tr<|Ra Y<|Ra Y<|Za<|K2 0 1 Y<|Tr<|Rm Y<|R2 Jn Y<|Ra Y<|Za<|K3 0 1 6 Y<|Tr<|Rm Y<|bE h fun q h_q h=>Rq Y (Zao (ov Y) (ov Y) h_q)<|Ra Y<|Za<|K4 0 1 6 7 Y<|Tr<|Rm Y<|R2 Jn Y<|Ra Y<|Za<|K5 0 1 6 7 8 Y<|Tr<|Rm Y<|bE h fun q2 h_q2 h=>Rq Y (Zao (ov Y) (ov Y) h_q2)<|Ra Y<|Za<|K6 0 1 6 7 8 9 Y<|Tr<|Rm Y<|Rm Y<|R2 ZfQ Y<|Ra Y<|Za<|K7 0 1 6 7 8 9 10 Y<|Tr<|Rm Y<|Rm Y<|R2 ZfQ Y<|Rm Y<|bE h fun q3 h_q3 h=>Rq Y (Zao (ov Y) (ov Y) h_q3)<|R2 ZI Y<|Ra Y<|Za<|K6 0 1 6 7 9 11 Y<|Tr<|Rm Y<|R2 Jn Y<|Ra Y<|Za<|K7 0 1 6 7 9 11 12 Y<|Tr<|Rm Y<|bE h fun q4 h_q4 h=>Rq Y (Zao (ov Y) (ov Y) h_q4)<|Ra Y<|Za<|K7 0 1 6 7 9 12 13 Y<|Tr<|Rm Y<|Rm Y<|Rm Y<|R2 ZfQ Y<|R2 ZI Y<|Ra Y<|Za<|K6 0 1 7 9 12 13 Y<|Tr<|Rm Y<|Rm Y<|R2 ZfQ Y<|Rm Y<|R2 ZI Y<|Rm Y<|bE h fun q5 h_q5 h=>Rq Y (Zao (ov Y) (ov Y) h_q5)<|R2 ZI Y<|Ra Y<|Za<|K3 0 1 4 Y<|Tr<|Rm Y<|Rm Y<|R2 ZfQ Y<|Ra Y<|Za<|?_
 obtain rfl := rt h
 exact Zn (ZN Y (.two (rb Y)<|rb Y))
theorem ZiQ {x : Int} {y : Int} {r : Int × Int} (h : ZeA x y = some r) :
 CSpec Tryz.prog gl0 96 [.int .u64 x, .int .u64 y] (.tuple [.int .u64 r.1, .int .u64 r.2]) := by
 unfold ZeA at h
 replace h := Z5 h
 refine So Tryz.func96 Y fun w0 A=>Tr<|Ra Y<|Ra Y<|Za<|Zf<|Zlc<|Zh<|K2 0 1 Y<|Tr<|Rm Y<|Rm Y<|bE h fun y2 h_y2 h=>Rq Y (Zr (Zii h_y2)<|.cons (ov Y) (.b Y)<|.cons (ov Y) (.b Y) .nil)<|Rm Y<|Rq Y (Zg (ov Y) Y)<|Rq Y (Zg (ov Y) Y)<|Ra Y<|Ra Y<|Za<|K2 8 9 Y<|Tr<|Rm Y<|Rm Y<|Ra Y<|Ra Y<|Za<|?_
 obtain rfl := rt h
 exact Zn (ZN Y (.two (rb Y)<|rb Y))
theorem Zk {x : List Int} {count : Int} {r : (List Int)} (h : QI x count = some r) :
 GSpec Tryz.prog gl0 63 [.sl 5 (List.map R5 x), .int .i64 count] [] (.own 0 r.length) [some ⟨5, List.map R5 r⟩] := by
 unfold QI at h
 replace h := Z5 h
 refine Z1 (by kernel_rfl) Tryz.func63 Y Y<|?_
 intro w0 A W φ0
 refine Tr<|Ra Y<|Za<|Zf<|K2 0 1 Y<|Tr<|Rm Y<|R2 ZJ Y<|Za<|K3 0 1 10 Y<|If h Y (fun h=>?_) fun h=>?_
 ·
  exact (Zk0 h).elim
 ·
  refine Zh<|K2 0 1 Y<|Tr<|Rm Y<|Rl tZ_5 ZL Y<|Rq Y (Qe (ov Y) tI3 ZeT Y)<|Rm Y<|Rq Y (Qe (ov Y) tI3 ZeT Y)<|bE h fun y h_y h=>Rq Y (Zr (ZiQ h_y)<|.cons (ov Y) (.b Y)<|.cons (ov Y) (.b Y) .nil)<|Rm Y<|Rq Y (Zg (ov Y) Y)<|Rq Y (Zg (ov Y) Y)<|Ra Y<|Ra Y<|Za<|Zf<|K3 0 5 6 Y<|Tr<|Rm Y<|R2 JR Y<|Rm Y<|Rq Y (.guarded ((decide (0 < y.1)) == false) Y Y Y Y fun h => Zc<|ov Y)<|Rq Y (.guarded ((decide (0 < y.1)) == false) Y Y Y Y fun h => JR (ow Y h)<|ov Y)<|Rq Y (Zdw (ov Y) fun hp=>ow Y<|gF hp)<|Za<|K3 0 6 26 Y<|If h Y (fun h=>?_) fun h=>?_
  ·
   exact (Zk0 h).elim
  ·
   refine Zh<|K2 0 6 Y<|Tr<|Rm Y<|Rq Y (Qe (ov Y) ZeT tI3 Y)<|bE h fun l h_l h=>Rx Y (Zab [none] (r := 0) (f := R5) (z0 := 0) Y (ov Y) (ov Y) ZL Y tZ5 Y Y h_l)<|Ra Y<|Za<|K2 0 7 Y<|Tr<|Rm Y<|Rm Y<|Rx Y (Zlo (f := R5) (g := C5) (xs := l) (ys := x) (ov Y) (Qt (ov Y) tZ_5) Y Y (fun _=>Y) (fun _=>Y) (fun _=>Y) ZL)<|Ra Y<|Za<|I1 (fun newslice=>⟨[(7, .own 0 newslice.length)], [some ⟨5, List.map R5 newslice⟩]⟩) h (fun h=>?_) fun newslice h=>?_
   ·
    refine Ze<|?_
    obtain ⟨r1, hl1, ho1⟩ := QP h
    refine L2 (fun newslice2 n=>⟨[(7, .own 0 newslice2.length), (8, .int .i64 n)], [some ⟨5, List.map R5 newslice2⟩]⟩) hl1 (ES [some 0]<|sr 7 Y (Zcu (Eq.symm<|(ZfW ..).trans Y) Y)<|sd 8 Y Y sn) fun n1 newslice2 n h=>?_
    unfold QN at h
    refine Zf<|Tr<|Rm Y<|Rm Y<|Rq Y (Zd2 (ov Y) Y Y ZL)<|R2 ZJ Y<|Za<|K3 7 8 37 Y<|If h Y (fun h=>?_) fun h=>?_
    ·
     exact Zh<|Ze<|K2 7 8 Y<|Qm (cw := md0) (by kernel_rfl)<|D1 1 Zc Y<|D1 2 Zc Y<|bE h fun u h_u h=>Dq 3 Y (Zkx (ov Y) Y Y ZL (oi<|ov Y) on h_u)<|D1 4 Zc Y<|D1 5 Zc Y<|bE h fun u2 h_u2 h=>Dq 6 Y (Zkx (ov Y) Y Y ZL on (oi<|ov Y) h_u2)<|ZM 0 _ Y (by kernel_rfl) Y Y (fun hp'=>Zc<|ov Y)<|Do 7 Y (Zlu (g := C5) (ov Y) (ov Y) Y Y (fun _=>Y) (fun _=>Y) (fun _=>Y) ZL (ZgP h_u)<|ZgP h_u2)<|D2 8 ZI Y<|D1 9 Qh Y<|Dd<|⟨_, h, ES [some 0]<|sr 7 Y (Zcu (Eq.symm<|(Zhr (ZgP h_u) (ZgP h_u2)).trans Y) Y)<|sd 8 Y Y sn⟩
    ·
     refine ZD<|?_
     replace h := lx h ▸ ho1
     exact ⟨_, h, ES [some 0]⟩
   ·
    refine Tr<|Rm Y<|Ra Y<|Za<|?_
    obtain rfl := rt h
    exact Zn<|XY [some 0] Y (.cons (.tmp Y) .nil) (.cons Y (roM D5) .nil) Y Y<|.own _ Y
theorem Zgh {sectors : Int} {slots : Int} {limit : Int} {r : api_Memory × Int} (h : JW sectors slots limit = some r) :
 CSpec Tryz.prog gl0 32 [.int .i64 sectors, .int .i64 slots, .int .i64 limit] (.tuple [.agg [.int .i64 r.1.Slots, .int .i64 r.1.Limit, .sl 22 (List.map R22 r.1.Sectors), .sl 3 (List.map R3 r.1.Wear), .sl 4 (List.map R4 r.1.Bad)], .int .i64 r.2]) := by
 unfold JW at h
 replace h := Z5 h
 refine So Tryz.func32 Y fun w0 A=>Tr<|Rx Y (Qg (row := [_, _, _, _, _]) 0 Y Zdx Y tZ_59)<|Ra Y<|Za<|Zf<|K4 0 1 2 6 Y<|Tr<|Rm Y<|bE h fun y h_y h=>Rq Y (Zr (Z3 h_y)<|.cons (ov Y) (.b Y)<|.cons (ov Y) (.b Y)<|.cons (ov Y) (.b Y) .nil)<|R1 XW Y<|Rm Y<|Rq Y (.guarded ((!y) == false) Y Y Y Y fun h => Zc<|ov Y)<|bE h fun y2 h_y2 h=>Rq Y (.guarded ((!y) == false) Y Y Y Y fun h => Zr (Z3<|gdT h_y2 h)<|.cons (ow Y h) (.b Y)<|.cons (ov Y) (.b Y)<|.cons (ov Y) (.b Y) .nil)<|Rq Y (.guarded ((!y) == false) Y Y Y Y fun h => XW<|ow Y h)<|Rq Y (Zdw (ov Y) fun hp=>ow Y<|gF hp)<|Rm Y<|Rq Y (.guarded (((!y) || (!y2)) == false) Y Y Y Y fun h => Zc<|ov Y)<|bE h fun y3 h_y3 h=>Rq Y (.guarded (((!y) || (!y2)) == false) Y Y Y Y fun h => Zr (Z3<|gdT h_y3 h)<|.cons (ow Y h) (.b Y)<|.cons (ov Y) (.b Y)<|.cons (ov Y) (.b Y) .nil)<|Rq Y (.guarded (((!y) || (!y2)) == false) Y Y Y Y fun h => XW<|ow Y h)<|Rq Y (Zdw (ov Y) fun hp=>ow Y<|gF hp)<|Za<|K5 0 1 2 6 21 Y<|If h Y (fun h=>?_) fun h=>?_
 ·
  refine K1 6 Y<|Tr<|Rq Y (XI (ys := [_, _, _, _, _]) ZhU Zhw Zdx .nil Y)<|Rx Y (Zm (ov Y) (ov Y) (Zy Jt Y) Y Y Y (Nat.le_of_ble_eq_true Y) (Zb Y) Y)<|Ra Y<|Za<|?_
  obtain rfl := rt h
  exact Zn (ZN Y (.two (.agg Y Y Y Y Jt Y Y<|.cons (Dat.view<|.b Y)<|.cons (Dat.view<|.b Y)<|.cons (View.nils 22)<|.cons (View.nils 3)<|.cons (View.nils 4) .nil)<|rb Y))
 ·
  refine Zh<|I2 (fun Wear Bad=>⟨[(0, .int .i64 sectors), (1, .int .i64 slots), (6, .ptr 0 1 0 0), (8, .ptr 1 1 0 0)], [some ⟨59, [[.int .i64 0, .int .i64 0, .nils, .nils, .nils]]⟩, some ⟨59, [[.int .i64 slots, .int .i64 limit, .nils, .own 2 Wear.length, .own 3 Bad.length]]⟩, some ⟨3, List.map R3 Wear⟩, some ⟨4, List.map R4 Bad⟩]⟩) h (fun h=>?_) fun Wear Bad h=>?_
  ·
   refine K4 0 1 2 6 Y<|Qm (cw := md0) (by kernel_rfl)<|ZM 0 _ Y (by kernel_rfl) Y Y (fun hp'=>Zc<|ov Y)<|ZM 1 _ Y (by kernel_rfl) Y Y (fun hp'=>Zc<|ov Y)<|ZM 2 _ Y (by kernel_rfl) Y Y (fun hp'=>Zc<|ov Y)<|ZM 4 _ Y (by kernel_rfl) Y Y (fun hp'=>Zc<|ov Y)<|bE h fun l h_l h=>bE h fun l2 h_l2 h=>ZjC [3, 5, 7] (by kernel_rfl)<|.w Y Y Y (fun _=>Ext.app) (fun h=>by cases h) (Zab [none] (r := 1) (f := R3) (z0 := 0) Y (ov Y) (ov Y) QK Y tZ3 Y Y h_l) ?_<|.w Y Y Y (fun _=>Ext.app) (fun h=>by cases h) (Zab [none] (r := 1) (f := R4) (z0 := false) Y (ov Y) (ov Y) Zia Y tZ4 Y Y h_l2) ?_<|.w Y Y Y (fun _=>Ext.app) (fun h=>by cases h) (Qg (row := [_, _, _, _, _]) 1 Y Zdx Y tZ_59) ?_ .nil
   ·
    refine ZjP 5 7 Y Y (by kernel_rfl) Y Y Y Y (fun _=>Ext.app) (fun _=>Ext.app) (fun h=>by cases h) (fun h=>by cases h) (Zab [none] (r := 2) (f := R4) (z0 := false) Y (ov Y) (ov Y) Zia Y tZ4 Y Y h_l2) (Qg (row := [_, _, _, _, _]) 2 Y Zdx Y tZ_59) ?_ ?_
    ·
     exact ZM 6 _ Y (by kernel_rfl) Y Y (fun hp'=>XI (ys := [_, _, _, _, _]) ZhU Zhw Zdx (.cons (cvs (ov Y)<|Zj Y)<|.cons (cvs (ov Y)<|Zj Y)<|.cons (cvs (ov Y)<|Zj Y)<|.cons (cvs (ov Y)<|Zj Y) .nil) Y)<|JK 7 _ _ Y (by kernel_rfl) Y Y (fun _=>Ext.app) (fun h=>by cases h) (Qg (row := [_, _, _, _, _]) 3 Y Zdx Y tZ_59)<|Do 8 Y (Zm (ov Y) (ov Y) (Zy Jt Y) Y Y Y (Nat.le_of_ble_eq_true Y) (Zb Y) Y)<|Dd<|⟨_, h, ES [some 0, some 3, some 1, some 2]⟩
    ·
     exact JK 5 _ _ Y (by kernel_rfl) Y Y (fun _=>Ext.app) (fun h=>by cases h) (Zab [none] (r := 3) (f := R4) (z0 := false) Y (ov Y) (ov Y) Zia Y tZ4 Y Y h_l2)<|Dq 6 Y (XI (ys := [_, _, _, _, _]) ZhU Zhw Zdx (.cons (cvs (ov Y)<|Zj Y)<|.cons (cvs (ov Y)<|Zj Y)<|.cons (cvs (ov Y)<|Zj Y)<|.cons (cvs (ov Y)<|Zj Y) .nil) Y)<|Do 8 Y (Zm (ov Y) (ov Y) (Zy Jt Y) Y Y Y (Nat.le_of_ble_eq_true Y) (Zb Y) Y)<|Dd<|⟨_, h, ES [some 0, some 2, some 1, some 3]⟩
   ·
    refine ZjP 3 7 Y Y (by kernel_rfl) Y Y Y Y (fun _=>Ext.app) (fun _=>Ext.app) (fun h=>by cases h) (fun h=>by cases h) (Zab [none] (r := 2) (f := R3) (z0 := 0) Y (ov Y) (ov Y) QK Y tZ3 Y Y h_l) (Qg (row := [_, _, _, _, _]) 2 Y Zdx Y tZ_59) ?_ ?_
    ·
     exact ZM 6 _ Y (by kernel_rfl) Y Y (fun hp'=>XI (ys := [_, _, _, _, _]) ZhU Zhw Zdx (.cons (cvs (ov Y)<|Zj Y)<|.cons (cvs (ov Y)<|Zj Y)<|.cons (cvs (ov Y)<|Zj Y)<|.cons (cvs (ov Y)<|Zj Y) .nil) Y)<|JK 7 _ _ Y (by kernel_rfl) Y Y (fun _=>Ext.app) (fun h=>by cases h) (Qg (row := [_, _, _, _, _]) 3 Y Zdx Y tZ_59)<|Do 8 Y (Zm (ov Y) (ov Y) (Zy Jt Y) Y Y Y (Nat.le_of_ble_eq_true Y) (Zb Y) Y)<|Dd<|⟨_, h, ES [some 0, some 3, some 2, some 1]⟩
    ·
     exact JK 3 _ _ Y (by kernel_rfl) Y Y (fun _=>Ext.app) (fun h=>by cases h) (Zab [none] (r := 3) (f := R3) (z0 := 0) Y (ov Y) (ov Y) QK Y tZ3 Y Y h_l)<|Dq 6 Y (XI (ys := [_, _, _, _, _]) ZhU Zhw Zdx (.cons (cvs (ov Y)<|Zj Y)<|.cons (cvs (ov Y)<|Zj Y)<|.cons (cvs (ov Y)<|Zj Y)<|.cons (cvs (ov Y)<|Zj Y) .nil) Y)<|Do 8 Y (Zm (ov Y) (ov Y) (Zy Jt Y) Y Y Y (Nat.le_of_ble_eq_true Y) (Zb Y) Y)<|Dd<|⟨_, h, ES [some 0, some 2, some 3, some 1]⟩
   ·
    refine ZjP 3 5 Y Y (by kernel_rfl) Y Y Y Y (fun _=>Ext.app) (fun _=>Ext.app) (fun h=>by cases h) (fun h=>by cases h) (Zab [none] (r := 2) (f := R3) (z0 := 0) Y (ov Y) (ov Y) QK Y tZ3 Y Y h_l) (Zab [none] (r := 2) (f := R4) (z0 := false) Y (ov Y) (ov Y) Zia Y tZ4 Y Y h_l2) ?_ ?_
    ·
     exact JK 5 _ _ Y (by kernel_rfl) Y Y (fun _=>Ext.app) (fun h=>by cases h) (Zab [none] (r := 3) (f := R4) (z0 := false) Y (ov Y) (ov Y) Zia Y tZ4 Y Y h_l2)<|Dq 6 Y (XI (ys := [_, _, _, _, _]) ZhU Zhw Zdx (.cons (cvs (ov Y)<|Zj Y)<|.cons (cvs (ov Y)<|Zj Y)<|.cons (cvs (ov Y)<|Zj Y)<|.cons (cvs (ov Y)<|Zj Y) .nil) Y)<|Do 8 Y (Zm (ov Y) (ov Y) (Zy Jt Y) Y Y Y (Nat.le_of_ble_eq_true Y) (Zb Y) Y)<|Dd<|⟨_, h, ES [some 0, some 1, some 2, some 3]⟩
    ·
     exact JK 3 _ _ Y (by kernel_rfl) Y Y (fun _=>Ext.app) (fun h=>by cases h) (Zab [none] (r := 3) (f := R3) (z0 := 0) Y (ov Y) (ov Y) QK Y tZ3 Y Y h_l)<|Dq 6 Y (XI (ys := [_, _, _, _, _]) ZhU Zhw Zdx (.cons (cvs (ov Y)<|Zj Y)<|.cons (cvs (ov Y)<|Zj Y)<|.cons (cvs (ov Y)<|Zj Y)<|.cons (cvs (ov Y)<|Zj Y) .nil) Y)<|Do 8 Y (Zm (ov Y) (ov Y) (Zy Jt Y) Y Y Y (Nat.le_of_ble_eq_true Y) (Zb Y) Y)<|Dd<|⟨_, h, ES [some 0, some 1, some 3, some 2]⟩
  ·
   refine I1 (fun Sectors=>⟨[(6, .ptr 0 1 0 0), (8, .ptr 1 1 0 0)], [some ⟨59, [[.int .i64 0, .int .i64 0, .nils, .nils, .nils]]⟩, some ⟨59, [[.int .i64 slots, .int .i64 limit, .own 2 Sectors.length, .own 3 Wear.length, .own 4 Bad.length]]⟩, some ⟨22, List.map O22 Sectors⟩, some ⟨3, List.map R3 Wear⟩, some ⟨4, List.map R4 Bad⟩]⟩) h (fun h=>?_) fun Sectors h=>?_
   ·
    refine Tr<|Rm Y<|Rm Y<|Za<|Ze<|?_
    obtain ⟨r1, hl1, ho1⟩ := QP h
    refine L2 (fun Sectors2 i=>⟨[(1, .int .i64 slots), (6, .ptr 0 1 0 0), (8, .ptr 1 1 0 0), (30, .int .i64 sectors), (31, .int .i64 i)], [some ⟨59, [[.int .i64 0, .int .i64 0, .nils, .nils, .nils]]⟩, some ⟨59, [[.int .i64 slots, .int .i64 limit, .own 2 Sectors2.length, .own 3 Wear.length, .own 4 Bad.length]]⟩, some ⟨22, List.map O22 Sectors2⟩, some ⟨3, List.map R3 Wear⟩, some ⟨4, List.map R4 Bad⟩]⟩) hl1 (ES [some 0, some 1, none, some 2, some 3]) fun n1 Sectors2 i h=>?_
    unfold JI at h
    refine Tr<|R2 ZJ Y<|Za<|Zf<|If h Y (fun h=>?_) fun h=>?_
    ·
     refine Zh<|I1 (fun Sectors3=>⟨[(1, .int .i64 slots), (6, .ptr 0 1 0 0), (8, .ptr 1 1 0 0), (30, .int .i64 sectors), (31, .int .i64 i)], [some ⟨59, [[.int .i64 0, .int .i64 0, .nils, .nils, .nils]]⟩, some ⟨59, [[.int .i64 slots, .int .i64 limit, .own 2 Sectors3.length, .own 3 Wear.length, .own 4 Bad.length]]⟩, some ⟨22, List.map O22 Sectors3⟩, some ⟨3, List.map R3 Wear⟩, some ⟨4, List.map R4 Bad⟩]⟩) h (fun h=>?_) fun Sectors3 h=>?_
     ·
      refine Ze<|K5 1 6 8 30 31 Y<|Qm (cw := ⟨true, false, [], [], []⟩) (by kernel_rfl)<|ZM 3 _ Y (by kernel_rfl) Y Y (fun hp'=>Zc<|ov Y)<|bE h fun y4 h_y4 h=>ZjC [0, 2, 4] (by kernel_rfl)<|.q Y Y Y (Zl (ov Y) Y Y ZH) ?_<|.w Y Y Y (fun h=>by cases h) (fun h=>by cases h) (XQ<|XX ZL (.cons (cvs (ov Y)<|Zj Y) Y (.cons (.b Y) .nil) .nil) Y Y) ?_<|.w Y Y Y (fun h=>by cases h) (fun h=>by cases h) (XQ<|Zr (ZT h_y4)<|.cons (ov Y) (.b Y) .nil) ?_ .nil
      ·
       refine ZjC [1, 2, 4] (by kernel_rfl)<|.q Y Y Y (Zt (ov Y) Y Y Y Ql Y) ?_<|.w Y Y Y (fun h=>by cases h) (fun h=>by cases h) (XQ<|XX ZL (.cons (cvs (ov Y)<|Zj Y) Y (.cons (.b Y) .nil) .nil) Y Y) ?_<|.w Y Y Y (fun h=>by cases h) (fun h=>by cases h) (XQ<|Zr (ZT h_y4)<|.cons (ov Y) (.b Y) .nil) ?_ .nil
       ·
        refine ZjP 2 4 Y Y (by kernel_rfl) Y Y Y Y (fun h=>by cases h) (fun h=>by cases h) (fun h=>by cases h) (fun h=>by cases h) (XQ<|XX ZL (.cons (cvs (ov Y)<|Zj Y) Y (.cons (.b Y) .nil) .nil) Y Y) (XQ<|Zr (ZT h_y4)<|.cons (ov Y) (.b Y) .nil) ?_ ?_
        ·
         exact Do 4 Y (XQ<|Zr (ZT h_y4)<|.cons (ov Y) (.b Y) .nil)<|bE h fun y5 h_y5 h=>Do 5 Y (Zv [] (Zk h_y5) (.cons (ov Y) (.dat Y)<|.cons (ov Y) (.dat Y) .nil) .nil Y (.keep Y Y<|.keep Y Y<|.keep Y Y<|.keep Y Y<|.keep Y Y<|.lent 0 (.inr ⟨Nat.le_of_ble_eq_true Y, Y⟩) Y (roM D5) .nil) Y Y<|.own _<|.inr ⟨Nat.le_of_ble_eq_true Y, Y⟩)<|Do 6 Y (Qw (r := 6) Y Z8 (.cons (cvs (ov Y)<|Zj Y) Y .nil) Y Y)<|bE h fun l3 h_l3 h=>Do 7 Y (ZE (f := O22) (ov Y) (ZZ (o := ⟨22, [[.own 5 y5.length]]⟩) (ov Y) Y Y tZ_22) Z8 Y Y (Zb Y) Y h_l3)<|Dq 8 Y (Zl (ov Y) Y Y ZH)<|Do 9 Y (Zm (ov Y) (ov Y) (Zd Ql) Y Y Y (Nat.le_of_ble_eq_true Y) (Zb Y) Y)<|Z7 (by kernel_rfl) (Ent.trans (Ent.absorbH (r := 2) (j := 0) (q := 5) Y (Zo h_l3) Y Y (List.length_map ..) Y)<|Ent.closeS (r := 2) Y (Zo h_l3) Y)<|⟨_, h, ES [some 0, some 1, some 2, some 3, some 4] (hhp := .cons Y (ro1 (by exact tZ_59.symm)<|rld Y)<|.cons Y (ro1 (by exact tZ_59.symm)<|rlc (.dat Y)<|rlc (.dat Y)<|rlc (.own _ Y)<|rlc (.own _ Y)<|rlc (.own _ Y) rln)<|.cons Y (roO XD)<|.cons Y (roM D3)<|.cons Y (roM D4) .nil)⟩
        ·
         exact JK 2 (.sl 5<|List.map R5 ([255] : List Int)) _ Y (by kernel_rfl) Y Y (fun h=>by cases h) (fun h=>by cases h) (XQ<|XX ZL (.cons (cvs (ov Y)<|Zj Y) Y (.cons (.b Y) .nil) .nil) Y Y)<|bE h fun y5 h_y5 h=>Do 5 Y (Zv [] (Zk h_y5) (.cons (ov Y) (.dat Y)<|.cons (ov Y) (.dat Y) .nil) .nil Y (.keep Y Y<|.keep Y Y<|.keep Y Y<|.keep Y Y<|.keep Y Y<|.lent 0 (.inr ⟨Nat.le_of_ble_eq_true Y, Y⟩) Y (roM D5) .nil) Y Y<|.own _<|.inr ⟨Nat.le_of_ble_eq_true Y, Y⟩)<|Do 6 Y (Qw (r := 6) Y Z8 (.cons (cvs (ov Y)<|Zj Y) Y .nil) Y Y)<|bE h fun l3 h_l3 h=>Do 7 Y (ZE (f := O22) (ov Y) (ZZ (o := ⟨22, [[.own 5 y5.length]]⟩) (ov Y) Y Y tZ_22) Z8 Y Y (Zb Y) Y h_l3)<|Dq 8 Y (Zl (ov Y) Y Y ZH)<|Do 9 Y (Zm (ov Y) (ov Y) (Zd Ql) Y Y Y (Nat.le_of_ble_eq_true Y) (Zb Y) Y)<|Z7 (by kernel_rfl) (Ent.trans (Ent.absorbH (r := 2) (j := 0) (q := 5) Y (Zo h_l3) Y Y (List.length_map ..) Y)<|Ent.closeS (r := 2) Y (Zo h_l3) Y)<|⟨_, h, ES [some 0, some 1, some 2, some 3, some 4] (hhp := .cons Y (ro1 (by exact tZ_59.symm)<|rld Y)<|.cons Y (ro1 (by exact tZ_59.symm)<|rlc (.dat Y)<|rlc (.dat Y)<|rlc (.own _ Y)<|rlc (.own _ Y)<|rlc (.own _ Y) rln)<|.cons Y (roO XD)<|.cons Y (roM D3)<|.cons Y (roM D4) .nil)⟩
       ·
        refine Dw 1 4 Y (Zt (ov Y) Y Y Y Ql Y) (XQ<|Zr (ZT h_y4)<|.cons (ov Y) (.b Y) .nil) ?_ ?_
        ·
         exact Do 4 Y (XQ<|Zr (ZT h_y4)<|.cons (ov Y) (.b Y) .nil)<|bE h fun y5 h_y5 h=>Do 5 Y (Zv [] (Zk h_y5) (.cons (ov Y) (.dat Y)<|.cons (ov Y) (.dat Y) .nil) .nil Y (.keep Y Y<|.keep Y Y<|.keep Y Y<|.keep Y Y<|.keep Y Y<|.lent 0 (.inr ⟨Nat.le_of_ble_eq_true Y, Y⟩) Y (roM D5) .nil) Y Y<|.own _<|.inr ⟨Nat.le_of_ble_eq_true Y, Y⟩)<|Do 6 Y (Qw (r := 6) Y Z8 (.cons (cvs (ov Y)<|Zj Y) Y .nil) Y Y)<|bE h fun l3 h_l3 h=>Do 7 Y (ZE (f := O22) (ov Y) (ZZ (o := ⟨22, [[.own 5 y5.length]]⟩) (ov Y) Y Y tZ_22) Z8 Y Y (Zb Y) Y h_l3)<|Dq 8 Y (Zl (ov Y) Y Y ZH)<|Do 9 Y (Zm (ov Y) (ov Y) (Zd Ql) Y Y Y (Nat.le_of_ble_eq_true Y) (Zb Y) Y)<|Z7 (by kernel_rfl) (Ent.trans (Ent.absorbH (r := 2) (j := 0) (q := 5) Y (Zo h_l3) Y Y (List.length_map ..) Y)<|Ent.closeS (r := 2) Y (Zo h_l3) Y)<|⟨_, h, ES [some 0, some 1, some 2, some 3, some 4] (hhp := .cons Y (ro1 (by exact tZ_59.symm)<|rld Y)<|.cons Y (ro1 (by exact tZ_59.symm)<|rlc (.dat Y)<|rlc (.dat Y)<|rlc (.own _ Y)<|rlc (.own _ Y)<|rlc (.own _ Y) rln)<|.cons Y (roO XD)<|.cons Y (roM D3)<|.cons Y (roM D4) .nil)⟩
        ·
         refine bE h fun y5 h_y5 h=>Dw 1 5 Y (Zt (ov Y) Y Y Y Ql Y) (Zv [] (Zk h_y5) (.cons (ov Y) (.dat Y)<|.cons (ov Y) (.dat Y) .nil) .nil Y (.keep Y Y<|.keep Y Y<|.keep Y Y<|.keep Y Y<|.keep Y Y<|.lent 0 (.inr ⟨Nat.le_of_ble_eq_true Y, Y⟩) Y (roM D5) .nil) Y Y<|.own _<|.inr ⟨Nat.le_of_ble_eq_true Y, Y⟩) ?_ ?_
         ·
          exact Do 5 Y (Zv [] (Zk h_y5) (.cons (ov Y) (.dat Y)<|.cons (ov Y) (.dat Y) .nil) .nil Y (.keep Y Y<|.keep Y Y<|.keep Y Y<|.keep Y Y<|.keep Y Y<|.lent 0 (.inr ⟨Nat.le_of_ble_eq_true Y, Y⟩) Y (roM D5) .nil) Y Y<|.own _<|.inr ⟨Nat.le_of_ble_eq_true Y, Y⟩)<|Do 6 Y (Qw (r := 6) Y Z8 (.cons (cvs (ov Y)<|Zj Y) Y .nil) Y Y)<|bE h fun l3 h_l3 h=>Do 7 Y (ZE (f := O22) (ov Y) (ZZ (o := ⟨22, [[.own 5 y5.length]]⟩) (ov Y) Y Y tZ_22) Z8 Y Y (Zb Y) Y h_l3)<|Dq 8 Y (Zl (ov Y) Y Y ZH)<|Do 9 Y (Zm (ov Y) (ov Y) (Zd Ql) Y Y Y (Nat.le_of_ble_eq_true Y) (Zb Y) Y)<|Z7 (by kernel_rfl) (Ent.trans (Ent.absorbH (r := 2) (j := 0) (q := 5) Y (Zo h_l3) Y Y (List.length_map ..) Y)<|Ent.closeS (r := 2) Y (Zo h_l3) Y)<|⟨_, h, ES [some 0, some 1, some 2, some 3, some 4] (hhp := .cons Y (ro1 (by exact tZ_59.symm)<|rld Y)<|.cons Y (ro1 (by exact tZ_59.symm)<|rlc (.dat Y)<|rlc (.dat Y)<|rlc (.own _ Y)<|rlc (.own _ Y)<|rlc (.own _ Y) rln)<|.cons Y (roO XD)<|.cons Y (roM D3)<|.cons Y (roM D4) .nil)⟩
         ·
          refine Dw 1 6 Y (Zt (ov Y) Y Y Y Ql Y) (Qw (r := 6) Y Z8 (.cons (cvs (ov Y)<|Zj Y) Y .nil) Y Y) ?_ ?_
          ·
           exact Do 6 Y (Qw (r := 6) Y Z8 (.cons (cvs (ov Y)<|Zj Y) Y .nil) Y Y)<|bE h fun l3 h_l3 h=>Do 7 Y (ZE (f := O22) (ov Y) (ZZ (o := ⟨22, [[.own 5 y5.length]]⟩) (ov Y) Y Y tZ_22) Z8 Y Y (Zb Y) Y h_l3)<|Dq 8 Y (Zl (ov Y) Y Y ZH)<|Do 9 Y (Zm (ov Y) (ov Y) (Zd Ql) Y Y Y (Nat.le_of_ble_eq_true Y) (Zb Y) Y)<|Z7 (by kernel_rfl) (Ent.trans (Ent.absorbH (r := 2) (j := 0) (q := 5) Y (Zo h_l3) Y Y (List.length_map ..) Y)<|Ent.closeS (r := 2) Y (Zo h_l3) Y)<|⟨_, h, ES [some 0, some 1, some 2, some 3, some 4] (hhp := .cons Y (ro1 (by exact tZ_59.symm)<|rld Y)<|.cons Y (ro1 (by exact tZ_59.symm)<|rlc (.dat Y)<|rlc (.dat Y)<|rlc (.own _ Y)<|rlc (.own _ Y)<|rlc (.own _ Y) rln)<|.cons Y (roO XD)<|.cons Y (roM D3)<|.cons Y (roM D4) .nil)⟩
          ·
           exact Dq 1 Y (Zt (ov Y) Y Y Y Ql Y)<|bE h fun l3 h_l3 h=>Do 7 Y (ZE (f := O22) (ov Y) (ZZ (o := ⟨22, [[.own 5 y5.length]]⟩) (ov Y) Y Y tZ_22) Z8 Y Y (Zb Y) Y h_l3)<|Dq 8 Y (Zl (ov Y) Y Y ZH)<|Do 9 Y (Zm (ov Y) (ov Y) (Zd Ql) Y Y Y (Nat.le_of_ble_eq_true Y) (Zb Y) Y)<|Z7 (by kernel_rfl) (Ent.trans (Ent.absorbH (r := 2) (j := 0) (q := 5) Y (Zo h_l3) Y Y (List.length_map ..) Y)<|Ent.closeS (r := 2) Y (Zo h_l3) Y)<|⟨_, h, ES [some 0, some 1, some 2, some 3, some 4] (hhp := .cons Y (ro1 (by exact tZ_59.symm)<|rld Y)<|.cons Y (ro1 (by exact tZ_59.symm)<|rlc (.dat Y)<|rlc (.dat Y)<|rlc (.own _ Y)<|rlc (.own _ Y)<|rlc (.own _ Y) rln)<|.cons Y (roO XD)<|.cons Y (roM D3)<|.cons Y (roM D4) .nil)⟩
       ·
        refine Dw 1 2 Y (Zt (ov Y) Y Y Y Ql Y) (XQ<|XX ZL (.cons (cvs (ov Y)<|Zj Y) Y (.cons (.b Y) .nil) .nil) Y Y) ?_ ?_
        ·
         exact JK 2 (.sl 5<|List.map R5 ([255] : List Int)) _ Y (by kernel_rfl) Y Y (fun h=>by cases h) (fun h=>by cases h) (XQ<|XX ZL (.cons (cvs (ov Y)<|Zj Y) Y (.cons (.b Y) .nil) .nil) Y Y)<|bE h fun y5 h_y5 h=>Do 5 Y (Zv [] (Zk h_y5) (.cons (ov Y) (.dat Y)<|.cons (ov Y) (.dat Y) .nil) .nil Y (.keep Y Y<|.keep Y Y<|.keep Y Y<|.keep Y Y<|.keep Y Y<|.lent 0 (.inr ⟨Nat.le_of_ble_eq_true Y, Y⟩) Y (roM D5) .nil) Y Y<|.own _<|.inr ⟨Nat.le_of_ble_eq_true Y, Y⟩)<|Do 6 Y (Qw (r := 6) Y Z8 (.cons (cvs (ov Y)<|Zj Y) Y .nil) Y Y)<|bE h fun l3 h_l3 h=>Do 7 Y (ZE (f := O22) (ov Y) (ZZ (o := ⟨22, [[.own 5 y5.length]]⟩) (ov Y) Y Y tZ_22) Z8 Y Y (Zb Y) Y h_l3)<|Dq 8 Y (Zl (ov Y) Y Y ZH)<|Do 9 Y (Zm (ov Y) (ov Y) (Zd Ql) Y Y Y (Nat.le_of_ble_eq_true Y) (Zb Y) Y)<|Z7 (by kernel_rfl) (Ent.trans (Ent.absorbH (r := 2) (j := 0) (q := 5) Y (Zo h_l3) Y Y (List.length_map ..) Y)<|Ent.closeS (r := 2) Y (Zo h_l3) Y)<|⟨_, h, ES [some 0, some 1, some 2, some 3, some 4] (hhp := .cons Y (ro1 (by exact tZ_59.symm)<|rld Y)<|.cons Y (ro1 (by exact tZ_59.symm)<|rlc (.dat Y)<|rlc (.dat Y)<|rlc (.own _ Y)<|rlc (.own _ Y)<|rlc (.own _ Y) rln)<|.cons Y (roO XD)<|.cons Y (roM D3)<|.cons Y (roM D4) .nil)⟩
        ·
         refine bE h fun y5 h_y5 h=>Dw 1 5 Y (Zt (ov Y) Y Y Y Ql Y) (Zv [] (Zk h_y5) (.cons (ov Y) (.dat Y)<|.cons (ov Y) (.dat Y) .nil) .nil Y (.keep Y Y<|.keep Y Y<|.keep Y Y<|.keep Y Y<|.keep Y Y<|.lent 0 (.inr ⟨Nat.le_of_ble_eq_true Y, Y⟩) Y (roM D5) .nil) Y Y<|.own _<|.inr ⟨Nat.le_of_ble_eq_true Y, Y⟩) ?_ ?_
         ·
          exact Do 5 Y (Zv [] (Zk h_y5) (.cons (ov Y) (.dat Y)<|.cons (ov Y) (.dat Y) .nil) .nil Y (.keep Y Y<|.keep Y Y<|.keep Y Y<|.keep Y Y<|.keep Y Y<|.lent 0 (.inr ⟨Nat.le_of_ble_eq_true Y, Y⟩) Y (roM D5) .nil) Y Y<|.own _<|.inr ⟨Nat.le_of_ble_eq_true Y, Y⟩)<|Do 6 Y (Qw (r := 6) Y Z8 (.cons (cvs (ov Y)<|Zj Y) Y .nil) Y Y)<|bE h fun l3 h_l3 h=>Do 7 Y (ZE (f := O22) (ov Y) (ZZ (o := ⟨22, [[.own 5 y5.length]]⟩) (ov Y) Y Y tZ_22) Z8 Y Y (Zb Y) Y h_l3)<|Dq 8 Y (Zl (ov Y) Y Y ZH)<|Do 9 Y (Zm (ov Y) (ov Y) (Zd Ql) Y Y Y (Nat.le_of_ble_eq_true Y) (Zb Y) Y)<|Z7 (by kernel_rfl) (Ent.trans (Ent.absorbH (r := 2) (j := 0) (q := 5) Y (Zo h_l3) Y Y (List.length_map ..) Y)<|Ent.closeS (r := 2) Y (Zo h_l3) Y)<|⟨_, h, ES [some 0, some 1, some 2, some 3, some 4] (hhp := .cons Y (ro1 (by exact tZ_59.symm)<|rld Y)<|.cons Y (ro1 (by exact tZ_59.symm)<|rlc (.dat Y)<|rlc (.dat Y)<|rlc (.own _ Y)<|rlc (.own _ Y)<|rlc (.own _ Y) rln)<|.cons Y (roO XD)<|.cons Y (roM D3)<|.cons Y (roM D4) .nil)⟩
         ·
          refine Dw 1 6 Y (Zt (ov Y) Y Y Y Ql Y) (Qw (r := 6) Y Z8 (.cons (cvs (ov Y)<|Zj Y) Y .nil) Y Y) ?_ ?_
          ·
           exact Do 6 Y (Qw (r := 6) Y Z8 (.cons (cvs (ov Y)<|Zj Y) Y .nil) Y Y)<|bE h fun l3 h_l3 h=>Do 7 Y (ZE (f := O22) (ov Y) (ZZ (o := ⟨22, [[.own 5 y5.length]]⟩) (ov Y) Y Y tZ_22) Z8 Y Y (Zb Y) Y h_l3)<|Dq 8 Y (Zl (ov Y) Y Y ZH)<|Do 9 Y (Zm (ov Y) (ov Y) (Zd Ql) Y Y Y (Nat.le_of_ble_eq_true Y) (Zb Y) Y)<|Z7 (by kernel_rfl) (Ent.trans (Ent.absorbH (r := 2) (j := 0) (q := 5) Y (Zo h_l3) Y Y (List.length_map ..) Y)<|Ent.closeS (r := 2) Y (Zo h_l3) Y)<|⟨_, h, ES [some 0, some 1, some 2, some 3, some 4] (hhp := .cons Y (ro1 (by exact tZ_59.symm)<|rld Y)<|.cons Y (ro1 (by exact tZ_59.symm)<|rlc (.dat Y)<|rlc (.dat Y)<|rlc (.own _ Y)<|rlc (.own _ Y)<|rlc (.own _ Y) rln)<|.cons Y (roO XD)<|.cons Y (roM D3)<|.cons Y (roM D4) .nil)⟩
          ·
           exact Dq 1 Y (Zt (ov Y) Y Y Y Ql Y)<|bE h fun l3 h_l3 h=>Do 7 Y (ZE (f := O22) (ov Y) (ZZ (o := ⟨22, [[.own 5 y5.length]]⟩) (ov Y) Y Y tZ_22) Z8 Y Y (Zb Y) Y h_l3)<|Dq 8 Y (Zl (ov Y) Y Y ZH)<|Do 9 Y (Zm (ov Y) (ov Y) (Zd Ql) Y Y Y (Nat.le_of_ble_eq_true Y) (Zb Y) Y)<|Z7 (by kernel_rfl) (Ent.trans (Ent.absorbH (r := 2) (j := 0) (q := 5) Y (Zo h_l3) Y Y (List.length_map ..) Y)<|Ent.closeS (r := 2) Y (Zo h_l3) Y)<|⟨_, h, ES [some 0, some 1, some 2, some 3, some 4] (hhp := .cons Y (ro1 (by exact tZ_59.symm)<|rld Y)<|.cons Y (ro1 (by exact tZ_59.symm)<|rlc (.dat Y)<|rlc (.dat Y)<|rlc (.own _ Y)<|rlc (.own _ Y)<|rlc (.own _ Y) rln)<|.cons Y (roO XD)<|.cons Y (roM D3)<|.cons Y (roM D4) .nil)⟩
      ·
       refine Dw 0 4 Y (Zl (ov Y) Y Y ZH) (XQ<|Zr (ZT h_y4)<|.cons (ov Y) (.b Y) .nil) ?_ ?_
       ·
        refine Dw 1 4 Y (Zt (ov Y) Y Y Y Ql Y) (XQ<|Zr (ZT h_y4)<|.cons (ov Y) (.b Y) .nil) ?_ ?_
        ·
         exact Do 4 Y (XQ<|Zr (ZT h_y4)<|.cons (ov Y) (.b Y) .nil)<|bE h fun y5 h_y5 h=>Do 5 Y (Zv [] (Zk h_y5) (.cons (ov Y) (.dat Y)<|.cons (ov Y) (.dat Y) .nil) .nil Y (.keep Y Y<|.keep Y Y<|.keep Y Y<|.keep Y Y<|.keep Y Y<|.lent 0 (.inr ⟨Nat.le_of_ble_eq_true Y, Y⟩) Y (roM D5) .nil) Y Y<|.own _<|.inr ⟨Nat.le_of_ble_eq_true Y, Y⟩)<|Do 6 Y (Qw (r := 6) Y Z8 (.cons (cvs (ov Y)<|Zj Y) Y .nil) Y Y)<|bE h fun l3 h_l3 h=>Do 7 Y (ZE (f := O22) (ov Y) (ZZ (o := ⟨22, [[.own 5 y5.length]]⟩) (ov Y) Y Y tZ_22) Z8 Y Y (Zb Y) Y h_l3)<|Dq 8 Y (Zl (ov Y) Y Y ZH)<|Do 9 Y (Zm (ov Y) (ov Y) (Zd Ql) Y Y Y (Nat.le_of_ble_eq_true Y) (Zb Y) Y)<|Z7 (by kernel_rfl) (Ent.trans (Ent.absorbH (r := 2) (j := 0) (q := 5) Y (Zo h_l3) Y Y (List.length_map ..) Y)<|Ent.closeS (r := 2) Y (Zo h_l3) Y)<|⟨_, h, ES [some 0, some 1, some 2, some 3, some 4] (hhp := .cons Y (ro1 (by exact tZ_59.symm)<|rld Y)<|.cons Y (ro1 (by exact tZ_59.symm)<|rlc (.dat Y)<|rlc (.dat Y)<|rlc (.own _ Y)<|rlc (.own _ Y)<|rlc (.own _ Y) rln)<|.cons Y (roO XD)<|.cons Y (roM D3)<|.cons Y (roM D4) .nil)⟩
        ·
         refine bE h fun y5 h_y5 h=>Dw 1 5 Y (Zt (ov Y) Y Y Y Ql Y) (Zv [] (Zk h_y5) (.cons (ov Y) (.dat Y)<|.cons (ov Y) (.dat Y) .nil) .nil Y (.keep Y Y<|.keep Y Y<|.keep Y Y<|.keep Y Y<|.keep Y Y<|.lent 0 (.inr ⟨Nat.le_of_ble_eq_true Y, Y⟩) Y (roM D5) .nil) Y Y<|.own _<|.inr ⟨Nat.le_of_ble_eq_true Y, Y⟩) ?_ ?_
         ·
          exact Do 5 Y (Zv [] (Zk h_y5) (.cons (ov Y) (.dat Y)<|.cons (ov Y) (.dat Y) .nil) .nil Y (.keep Y Y<|.keep Y Y<|.keep Y Y<|.keep Y Y<|.keep Y Y<|.lent 0 (.inr ⟨Nat.le_of_ble_eq_true Y, Y⟩) Y (roM D5) .nil) Y Y<|.own _<|.inr ⟨Nat.le_of_ble_eq_true Y, Y⟩)<|Do 6 Y (Qw (r := 6) Y Z8 (.cons (cvs (ov Y)<|Zj Y) Y .nil) Y Y)<|bE h fun l3 h_l3 h=>Do 7 Y (ZE (f := O22) (ov Y) (ZZ (o := ⟨22, [[.own 5 y5.length]]⟩) (ov Y) Y Y tZ_22) Z8 Y Y (Zb Y) Y h_l3)<|Dq 8 Y (Zl (ov Y) Y Y ZH)<|Do 9 Y (Zm (ov Y) (ov Y) (Zd Ql) Y Y Y (Nat.le_of_ble_eq_true Y) (Zb Y) Y)<|Z7 (by kernel_rfl) (Ent.trans (Ent.absorbH (r := 2) (j := 0) (q := 5) Y (Zo h_l3) Y Y (List.length_map ..) Y)<|Ent.closeS (r := 2) Y (Zo h_l3) Y)<|⟨_, h, ES [some 0, some 1, some 2, some 3, some 4] (hhp := .cons Y (ro1 (by exact tZ_59.symm)<|rld Y)<|.cons Y (ro1 (by exact tZ_59.symm)<|rlc (.dat Y)<|rlc (.dat Y)<|rlc (.own _ Y)<|rlc (.own _ Y)<|rlc (.own _ Y) rln)<|.cons Y (roO XD)<|.cons Y (roM D3)<|.cons Y (roM D4) .nil)⟩
         ·
          refine Dw 1 6 Y (Zt (ov Y) Y Y Y Ql Y) (Qw (r := 6) Y Z8 (.cons (cvs (ov Y)<|Zj Y) Y .nil) Y Y) ?_ ?_
          ·
           exact Do 6 Y (Qw (r := 6) Y Z8 (.cons (cvs (ov Y)<|Zj Y) Y .nil) Y Y)<|bE h fun l3 h_l3 h=>Do 7 Y (ZE (f := O22) (ov Y) (ZZ (o := ⟨22, [[.own 5 y5.length]]⟩) (ov Y) Y Y tZ_22) Z8 Y Y (Zb Y) Y h_l3)<|Dq 8 Y (Zl (ov Y) Y Y ZH)<|Do 9 Y (Zm (ov Y) (ov Y) (Zd Ql) Y Y Y (Nat.le_of_ble_eq_true Y) (Zb Y) Y)<|Z7 (by kernel_rfl) (Ent.trans (Ent.absorbH (r := 2) (j := 0) (q := 5) Y (Zo h_l3) Y Y (List.length_map ..) Y)<|Ent.closeS (r := 2) Y (Zo h_l3) Y)<|⟨_, h, ES [some 0, some 1, some 2, some 3, some 4] (hhp := .cons Y (ro1 (by exact tZ_59.symm)<|rld Y)<|.cons Y (ro1 (by exact tZ_59.symm)<|rlc (.dat Y)<|rlc (.dat Y)<|rlc (.own _ Y)<|rlc (.own _ Y)<|rlc (.own _ Y) rln)<|.cons Y (roO XD)<|.cons Y (roM D3)<|.cons Y (roM D4) .nil)⟩
          ·
           exact Dq 1 Y (Zt (ov Y) Y Y Y Ql Y)<|bE h fun l3 h_l3 h=>Do 7 Y (ZE (f := O22) (ov Y) (ZZ (o := ⟨22, [[.own 5 y5.length]]⟩) (ov Y) Y Y tZ_22) Z8 Y Y (Zb Y) Y h_l3)<|Dq 8 Y (Zl (ov Y) Y Y ZH)<|Do 9 Y (Zm (ov Y) (ov Y) (Zd Ql) Y Y Y (Nat.le_of_ble_eq_true Y) (Zb Y) Y)<|Z7 (by kernel_rfl) (Ent.trans (Ent.absorbH (r := 2) (j := 0) (q := 5) Y (Zo h_l3) Y Y (List.length_map ..) Y)<|Ent.closeS (r := 2) Y (Zo h_l3) Y)<|⟨_, h, ES [some 0, some 1, some 2, some 3, some 4] (hhp := .cons Y (ro1 (by exact tZ_59.symm)<|rld Y)<|.cons Y (ro1 (by exact tZ_59.symm)<|rlc (.dat Y)<|rlc (.dat Y)<|rlc (.own _ Y)<|rlc (.own _ Y)<|rlc (.own _ Y) rln)<|.cons Y (roO XD)<|.cons Y (roM D3)<|.cons Y (roM D4) .nil)⟩
       ·
        refine bE h fun y5 h_y5 h=>Dw 0 5 Y (Zl (ov Y) Y Y ZH) (Zv [] (Zk h_y5) (.cons (ov Y) (.dat Y)<|.cons (ov Y) (.dat Y) .nil) .nil Y (.keep Y Y<|.keep Y Y<|.keep Y Y<|.keep Y Y<|.keep Y Y<|.lent 0 (.inr ⟨Nat.le_of_ble_eq_true Y, Y⟩) Y (roM D5) .nil) Y Y<|.own _<|.inr ⟨Nat.le_of_ble_eq_true Y, Y⟩) ?_ ?_
        ·
         refine Dw 1 5 Y (Zt (ov Y) Y Y Y Ql Y) (Zv [] (Zk h_y5) (.cons (ov Y) (.dat Y)<|.cons (ov Y) (.dat Y) .nil) .nil Y (.keep Y Y<|.keep Y Y<|.keep Y Y<|.keep Y Y<|.keep Y Y<|.lent 0 (.inr ⟨Nat.le_of_ble_eq_true Y, Y⟩) Y (roM D5) .nil) Y Y<|.own _<|.inr ⟨Nat.le_of_ble_eq_true Y, Y⟩) ?_ ?_
         ·
          exact Do 5 Y (Zv [] (Zk h_y5) (.cons (ov Y) (.dat Y)<|.cons (ov Y) (.dat Y) .nil) .nil Y (.keep Y Y<|.keep Y Y<|.keep Y Y<|.keep Y Y<|.keep Y Y<|.lent 0 (.inr ⟨Nat.le_of_ble_eq_true Y, Y⟩) Y (roM D5) .nil) Y Y<|.own _<|.inr ⟨Nat.le_of_ble_eq_true Y, Y⟩)<|Do 6 Y (Qw (r := 6) Y Z8 (.cons (cvs (ov Y)<|Zj Y) Y .nil) Y Y)<|bE h fun l3 h_l3 h=>Do 7 Y (ZE (f := O22) (ov Y) (ZZ (o := ⟨22, [[.own 5 y5.length]]⟩) (ov Y) Y Y tZ_22) Z8 Y Y (Zb Y) Y h_l3)<|Dq 8 Y (Zl (ov Y) Y Y ZH)<|Do 9 Y (Zm (ov Y) (ov Y) (Zd Ql) Y Y Y (Nat.le_of_ble_eq_true Y) (Zb Y) Y)<|Z7 (by kernel_rfl) (Ent.trans (Ent.absorbH (r := 2) (j := 0) (q := 5) Y (Zo h_l3) Y Y (List.length_map ..) Y)<|Ent.closeS (r := 2) Y (Zo h_l3) Y)<|⟨_, h, ES [some 0, some 1, some 2, some 3, some 4] (hhp := .cons Y (ro1 (by exact tZ_59.symm)<|rld Y)<|.cons Y (ro1 (by exact tZ_59.symm)<|rlc (.dat Y)<|rlc (.dat Y)<|rlc (.own _ Y)<|rlc (.own _ Y)<|rlc (.own _ Y) rln)<|.cons Y (roO XD)<|.cons Y (roM D3)<|.cons Y (roM D4) .nil)⟩
         ·
          refine Dw 1 6 Y (Zt (ov Y) Y Y Y Ql Y) (Qw (r := 6) Y Z8 (.cons (cvs (ov Y)<|Zj Y) Y .nil) Y Y) ?_ ?_
          ·
           exact Do 6 Y (Qw (r := 6) Y Z8 (.cons (cvs (ov Y)<|Zj Y) Y .nil) Y Y)<|bE h fun l3 h_l3 h=>Do 7 Y (ZE (f := O22) (ov Y) (ZZ (o := ⟨22, [[.own 5 y5.length]]⟩) (ov Y) Y Y tZ_22) Z8 Y Y (Zb Y) Y h_l3)<|Dq 8 Y (Zl (ov Y) Y Y ZH)<|Do 9 Y (Zm (ov Y) (ov Y) (Zd Ql) Y Y Y (Nat.le_of_ble_eq_true Y) (Zb Y) Y)<|Z7 (by kernel_rfl) (Ent.trans (Ent.absorbH (r := 2) (j := 0) (q := 5) Y (Zo h_l3) Y Y (List.length_map ..) Y)<|Ent.closeS (r := 2) Y (Zo h_l3) Y)<|⟨_, h, ES [some 0, some 1, some 2, some 3, some 4] (hhp := .cons Y (ro1 (by exact tZ_59.symm)<|rld Y)<|.cons Y (ro1 (by exact tZ_59.symm)<|rlc (.dat Y)<|rlc (.dat Y)<|rlc (.own _ Y)<|rlc (.own _ Y)<|rlc (.own _ Y) rln)<|.cons Y (roO XD)<|.cons Y (roM D3)<|.cons Y (roM D4) .nil)⟩
          ·
           exact Dq 1 Y (Zt (ov Y) Y Y Y Ql Y)<|bE h fun l3 h_l3 h=>Do 7 Y (ZE (f := O22) (ov Y) (ZZ (o := ⟨22, [[.own 5 y5.length]]⟩) (ov Y) Y Y tZ_22) Z8 Y Y (Zb Y) Y h_l3)<|Dq 8 Y (Zl (ov Y) Y Y ZH)<|Do 9 Y (Zm (ov Y) (ov Y) (Zd Ql) Y Y Y (Nat.le_of_ble_eq_true Y) (Zb Y) Y)<|Z7 (by kernel_rfl) (Ent.trans (Ent.absorbH (r := 2) (j := 0) (q := 5) Y (Zo h_l3) Y Y (List.length_map ..) Y)<|Ent.closeS (r := 2) Y (Zo h_l3) Y)<|⟨_, h, ES [some 0, some 1, some 2, some 3, some 4] (hhp := .cons Y (ro1 (by exact tZ_59.symm)<|rld Y)<|.cons Y (ro1 (by exact tZ_59.symm)<|rlc (.dat Y)<|rlc (.dat Y)<|rlc (.own _ Y)<|rlc (.own _ Y)<|rlc (.own _ Y) rln)<|.cons Y (roO XD)<|.cons Y (roM D3)<|.cons Y (roM D4) .nil)⟩
        ·
         refine Dw 0 6 Y (Zl (ov Y) Y Y ZH) (Qw (r := 6) Y Z8 (.cons (cvs (ov Y)<|Zj Y) Y .nil) Y Y) ?_ ?_
         ·
          refine Dw 1 6 Y (Zt (ov Y) Y Y Y Ql Y) (Qw (r := 6) Y Z8 (.cons (cvs (ov Y)<|Zj Y) Y .nil) Y Y) ?_ ?_
          ·
           exact Do 6 Y (Qw (r := 6) Y Z8 (.cons (cvs (ov Y)<|Zj Y) Y .nil) Y Y)<|bE h fun l3 h_l3 h=>Do 7 Y (ZE (f := O22) (ov Y) (ZZ (o := ⟨22, [[.own 5 y5.length]]⟩) (ov Y) Y Y tZ_22) Z8 Y Y (Zb Y) Y h_l3)<|Dq 8 Y (Zl (ov Y) Y Y ZH)<|Do 9 Y (Zm (ov Y) (ov Y) (Zd Ql) Y Y Y (Nat.le_of_ble_eq_true Y) (Zb Y) Y)<|Z7 (by kernel_rfl) (Ent.trans (Ent.absorbH (r := 2) (j := 0) (q := 5) Y (Zo h_l3) Y Y (List.length_map ..) Y)<|Ent.closeS (r := 2) Y (Zo h_l3) Y)<|⟨_, h, ES [some 0, some 1, some 2, some 3, some 4] (hhp := .cons Y (ro1 (by exact tZ_59.symm)<|rld Y)<|.cons Y (ro1 (by exact tZ_59.symm)<|rlc (.dat Y)<|rlc (.dat Y)<|rlc (.own _ Y)<|rlc (.own _ Y)<|rlc (.own _ Y) rln)<|.cons Y (roO XD)<|.cons Y (roM D3)<|.cons Y (roM D4) .nil)⟩
          ·
           exact Dq 1 Y (Zt (ov Y) Y Y Y Ql Y)<|bE h fun l3 h_l3 h=>Do 7 Y (ZE (f := O22) (ov Y) (ZZ (o := ⟨22, [[.own 5 y5.length]]⟩) (ov Y) Y Y tZ_22) Z8 Y Y (Zb Y) Y h_l3)<|Dq 8 Y (Zl (ov Y) Y Y ZH)<|Do 9 Y (Zm (ov Y) (ov Y) (Zd Ql) Y Y Y (Nat.le_of_ble_eq_true Y) (Zb Y) Y)<|Z7 (by kernel_rfl) (Ent.trans (Ent.absorbH (r := 2) (j := 0) (q := 5) Y (Zo h_l3) Y Y (List.length_map ..) Y)<|Ent.closeS (r := 2) Y (Zo h_l3) Y)<|⟨_, h, ES [some 0, some 1, some 2, some 3, some 4] (hhp := .cons Y (ro1 (by exact tZ_59.symm)<|rld Y)<|.cons Y (ro1 (by exact tZ_59.symm)<|rlc (.dat Y)<|rlc (.dat Y)<|rlc (.own _ Y)<|rlc (.own _ Y)<|rlc (.own _ Y) rln)<|.cons Y (roO XD)<|.cons Y (roM D3)<|.cons Y (roM D4) .nil)⟩
         ·
          exact Dq 0 Y (Zl (ov Y) Y Y ZH)<|Dq 1 Y (Zt (ov Y) Y Y Y Ql Y)<|bE h fun l3 h_l3 h=>Do 7 Y (ZE (f := O22) (ov Y) (ZZ (o := ⟨22, [[.own 5 y5.length]]⟩) (ov Y) Y Y tZ_22) Z8 Y Y (Zb Y) Y h_l3)<|Dq 8 Y (Zl (ov Y) Y Y ZH)<|Do 9 Y (Zm (ov Y) (ov Y) (Zd Ql) Y Y Y (Nat.le_of_ble_eq_true Y) (Zb Y) Y)<|Z7 (by kernel_rfl) (Ent.trans (Ent.absorbH (r := 2) (j := 0) (q := 5) Y (Zo h_l3) Y Y (List.length_map ..) Y)<|Ent.closeS (r := 2) Y (Zo h_l3) Y)<|⟨_, h, ES [some 0, some 1, some 2, some 3, some 4] (hhp := .cons Y (ro1 (by exact tZ_59.symm)<|rld Y)<|.cons Y (ro1 (by exact tZ_59.symm)<|rlc (.dat Y)<|rlc (.dat Y)<|rlc (.own _ Y)<|rlc (.own _ Y)<|rlc (.own _ Y) rln)<|.cons Y (roO XD)<|.cons Y (roM D3)<|.cons Y (roM D4) .nil)⟩
      ·
       refine Dw 0 2 Y (Zl (ov Y) Y Y ZH) (XQ<|XX ZL (.cons (cvs (ov Y)<|Zj Y) Y (.cons (.b Y) .nil) .nil) Y Y) ?_ ?_
       ·
        refine Dw 1 2 Y (Zt (ov Y) Y Y Y Ql Y) (XQ<|XX ZL (.cons (cvs (ov Y)<|Zj Y) Y (.cons (.b Y) .nil) .nil) Y Y) ?_ ?_
        ·
         exact JK 2 (.sl 5<|List.map R5 ([255] : List Int)) _ Y (by kernel_rfl) Y Y (fun h=>by cases h) (fun h=>by cases h) (XQ<|XX ZL (.cons (cvs (ov Y)<|Zj Y) Y (.cons (.b Y) .nil) .nil) Y Y)<|bE h fun y5 h_y5 h=>Do 5 Y (Zv [] (Zk h_y5) (.cons (ov Y) (.dat Y)<|.cons (ov Y) (.dat Y) .nil) .nil Y (.keep Y Y<|.keep Y Y<|.keep Y Y<|.keep Y Y<|.keep Y Y<|.lent 0 (.inr ⟨Nat.le_of_ble_eq_true Y, Y⟩) Y (roM D5) .nil) Y Y<|.own _<|.inr ⟨Nat.le_of_ble_eq_true Y, Y⟩)<|Do 6 Y (Qw (r := 6) Y Z8 (.cons (cvs (ov Y)<|Zj Y) Y .nil) Y Y)<|bE h fun l3 h_l3 h=>Do 7 Y (ZE (f := O22) (ov Y) (ZZ (o := ⟨22, [[.own 5 y5.length]]⟩) (ov Y) Y Y tZ_22) Z8 Y Y (Zb Y) Y h_l3)<|Dq 8 Y (Zl (ov Y) Y Y ZH)<|Do 9 Y (Zm (ov Y) (ov Y) (Zd Ql) Y Y Y (Nat.le_of_ble_eq_true Y) (Zb Y) Y)<|Z7 (by kernel_rfl) (Ent.trans (Ent.absorbH (r := 2) (j := 0) (q := 5) Y (Zo h_l3) Y Y (List.length_map ..) Y)<|Ent.closeS (r := 2) Y (Zo h_l3) Y)<|⟨_, h, ES [some 0, some 1, some 2, some 3, some 4] (hhp := .cons Y (ro1 (by exact tZ_59.symm)<|rld Y)<|.cons Y (ro1 (by exact tZ_59.symm)<|rlc (.dat Y)<|rlc (.dat Y)<|rlc (.own _ Y)<|rlc (.own _ Y)<|rlc (.own _ Y) rln)<|.cons Y (roO XD)<|.cons Y (roM D3)<|.cons Y (roM D4) .nil)⟩
        ·
         refine bE h fun y5 h_y5 h=>Dw 1 5 Y (Zt (ov Y) Y Y Y Ql Y) (Zv [] (Zk h_y5) (.cons (ov Y) (.dat Y)<|.cons (ov Y) (.dat Y) .nil) .nil Y (.keep Y Y<|.keep Y Y<|.keep Y Y<|.keep Y Y<|.keep Y Y<|.lent 0 (.inr ⟨Nat.le_of_ble_eq_true Y, Y⟩) Y (roM D5) .nil) Y Y<|.own _<|.inr ⟨Nat.le_of_ble_eq_true Y, Y⟩) ?_ ?_
         ·
          exact Do 5 Y (Zv [] (Zk h_y5) (.cons (ov Y) (.dat Y)<|.cons (ov Y) (.dat Y) .nil) .nil Y (.keep Y Y<|.keep Y Y<|.keep Y Y<|.keep Y Y<|.keep Y Y<|.lent 0 (.inr ⟨Nat.le_of_ble_eq_true Y, Y⟩) Y (roM D5) .nil) Y Y<|.own _<|.inr ⟨Nat.le_of_ble_eq_true Y, Y⟩)<|Do 6 Y (Qw (r := 6) Y Z8 (.cons (cvs (ov Y)<|Zj Y) Y .nil) Y Y)<|bE h fun l3 h_l3 h=>Do 7 Y (ZE (f := O22) (ov Y) (ZZ (o := ⟨22, [[.own 5 y5.length]]⟩) (ov Y) Y Y tZ_22) Z8 Y Y (Zb Y) Y h_l3)<|Dq 8 Y (Zl (ov Y) Y Y ZH)<|Do 9 Y (Zm (ov Y) (ov Y) (Zd Ql) Y Y Y (Nat.le_of_ble_eq_true Y) (Zb Y) Y)<|Z7 (by kernel_rfl) (Ent.trans (Ent.absorbH (r := 2) (j := 0) (q := 5) Y (Zo h_l3) Y Y (List.length_map ..) Y)<|Ent.closeS (r := 2) Y (Zo h_l3) Y)<|⟨_, h, ES [some 0, some 1, some 2, some 3, some 4] (hhp := .cons Y (ro1 (by exact tZ_59.symm)<|rld Y)<|.cons Y (ro1 (by exact tZ_59.symm)<|rlc (.dat Y)<|rlc (.dat Y)<|rlc (.own _ Y)<|rlc (.own _ Y)<|rlc (.own _ Y) rln)<|.cons Y (roO XD)<|.cons Y (roM D3)<|.cons Y (roM D4) .nil)⟩
         ·
          refine Dw 1 6 Y (Zt (ov Y) Y Y Y Ql Y) (Qw (r := 6) Y Z8 (.cons (cvs (ov Y)<|Zj Y) Y .nil) Y Y) ?_ ?_
          ·
           exact Do 6 Y (Qw (r := 6) Y Z8 (.cons (cvs (ov Y)<|Zj Y) Y .nil) Y Y)<|bE h fun l3 h_l3 h=>Do 7 Y (ZE (f := O22) (ov Y) (ZZ (o := ⟨22, [[.own 5 y5.length]]⟩) (ov Y) Y Y tZ_22) Z8 Y Y (Zb Y) Y h_l3)<|Dq 8 Y (Zl (ov Y) Y Y ZH)<|Do 9 Y (Zm (ov Y) (ov Y) (Zd Ql) Y Y Y (Nat.le_of_ble_eq_true Y) (Zb Y) Y)<|Z7 (by kernel_rfl) (Ent.trans (Ent.absorbH (r := 2) (j := 0) (q := 5) Y (Zo h_l3) Y Y (List.length_map ..) Y)<|Ent.closeS (r := 2) Y (Zo h_l3) Y)<|⟨_, h, ES [some 0, some 1, some 2, some 3, some 4] (hhp := .cons Y (ro1 (by exact tZ_59.symm)<|rld Y)<|.cons Y (ro1 (by exact tZ_59.symm)<|rlc (.dat Y)<|rlc (.dat Y)<|rlc (.own _ Y)<|rlc (.own _ Y)<|rlc (.own _ Y) rln)<|.cons Y (roO XD)<|.cons Y (roM D3)<|.cons Y (roM D4) .nil)⟩
          ·
           exact Dq 1 Y (Zt (ov Y) Y Y Y Ql Y)<|bE h fun l3 h_l3 h=>Do 7 Y (ZE (f := O22) (ov Y) (ZZ (o := ⟨22, [[.own 5 y5.length]]⟩) (ov Y) Y Y tZ_22) Z8 Y Y (Zb Y) Y h_l3)<|Dq 8 Y (Zl (ov Y) Y Y ZH)<|Do 9 Y (Zm (ov Y) (ov Y) (Zd Ql) Y Y Y (Nat.le_of_ble_eq_true Y) (Zb Y) Y)<|Z7 (by kernel_rfl) (Ent.trans (Ent.absorbH (r := 2) (j := 0) (q := 5) Y (Zo h_l3) Y Y (List.length_map ..) Y)<|Ent.closeS (r := 2) Y (Zo h_l3) Y)<|⟨_, h, ES [some 0, some 1, some 2, some 3, some 4] (hhp := .cons Y (ro1 (by exact tZ_59.symm)<|rld Y)<|.cons Y (ro1 (by exact tZ_59.symm)<|rlc (.dat Y)<|rlc (.dat Y)<|rlc (.own _ Y)<|rlc (.own _ Y)<|rlc (.own _ Y) rln)<|.cons Y (roO XD)<|.cons Y (roM D3)<|.cons Y (roM D4) .nil)⟩
       ·
        refine bE h fun y5 h_y5 h=>Dw 0 5 Y (Zl (ov Y) Y Y ZH) (Zv [] (Zk h_y5) (.cons (ov Y) (.dat Y)<|.cons (ov Y) (.dat Y) .nil) .nil Y (.keep Y Y<|.keep Y Y<|.keep Y Y<|.keep Y Y<|.keep Y Y<|.lent 0 (.inr ⟨Nat.le_of_ble_eq_true Y, Y⟩) Y (roM D5) .nil) Y Y<|.own _<|.inr ⟨Nat.le_of_ble_eq_true Y, Y⟩) ?_ ?_
        ·
         refine Dw 1 5 Y (Zt (ov Y) Y Y Y Ql Y) (Zv [] (Zk h_y5) (.cons (ov Y) (.dat Y)<|.cons (ov Y) (.dat Y) .nil) .nil Y (.keep Y Y<|.keep Y Y<|.keep Y Y<|.keep Y Y<|.keep Y Y<|.lent 0 (.inr ⟨Nat.le_of_ble_eq_true Y, Y⟩) Y (roM D5) .nil) Y Y<|.own _<|.inr ⟨Nat.le_of_ble_eq_true Y, Y⟩) ?_ ?_
         ·
          exact Do 5 Y (Zv [] (Zk h_y5) (.cons (ov Y) (.dat Y)<|.cons (ov Y) (.dat Y) .nil) .nil Y (.keep Y Y<|.keep Y Y<|.keep Y Y<|.keep Y Y<|.keep Y Y<|.lent 0 (.inr ⟨Nat.le_of_ble_eq_true Y, Y⟩) Y (roM D5) .nil) Y Y<|.own _<|.inr ⟨Nat.le_of_ble_eq_true Y, Y⟩)<|Do 6 Y (Qw (r := 6) Y Z8 (.cons (cvs (ov Y)<|Zj Y) Y .nil) Y Y)<|bE h fun l3 h_l3 h=>Do 7 Y (ZE (f := O22) (ov Y) (ZZ (o := ⟨22, [[.own 5 y5.length]]⟩) (ov Y) Y Y tZ_22) Z8 Y Y (Zb Y) Y h_l3)<|Dq 8 Y (Zl (ov Y) Y Y ZH)<|Do 9 Y (Zm (ov Y) (ov Y) (Zd Ql) Y Y Y (Nat.le_of_ble_eq_true Y) (Zb Y) Y)<|Z7 (by kernel_rfl) (Ent.trans (Ent.absorbH (r := 2) (j := 0) (q := 5) Y (Zo h_l3) Y Y (List.length_map ..) Y)<|Ent.closeS (r := 2) Y (Zo h_l3) Y)<|⟨_, h, ES [some 0, some 1, some 2, some 3, some 4] (hhp := .cons Y (ro1 (by exact tZ_59.symm)<|rld Y)<|.cons Y (ro1 (by exact tZ_59.symm)<|rlc (.dat Y)<|rlc (.dat Y)<|rlc (.own _ Y)<|rlc (.own _ Y)<|rlc (.own _ Y) rln)<|.cons Y (roO XD)<|.cons Y (roM D3)<|.cons Y (roM D4) .nil)⟩
         ·
          refine Dw 1 6 Y (Zt (ov Y) Y Y Y Ql Y) (Qw (r := 6) Y Z8 (.cons (cvs (ov Y)<|Zj Y) Y .nil) Y Y) ?_ ?_
          ·
           exact Do 6 Y (Qw (r := 6) Y Z8 (.cons (cvs (ov Y)<|Zj Y) Y .nil) Y Y)<|bE h fun l3 h_l3 h=>Do 7 Y (ZE (f := O22) (ov Y) (ZZ (o := ⟨22, [[.own 5 y5.length]]⟩) (ov Y) Y Y tZ_22) Z8 Y Y (Zb Y) Y h_l3)<|Dq 8 Y (Zl (ov Y) Y Y ZH)<|Do 9 Y (Zm (ov Y) (ov Y) (Zd Ql) Y Y Y (Nat.le_of_ble_eq_true Y) (Zb Y) Y)<|Z7 (by kernel_rfl) (Ent.trans (Ent.absorbH (r := 2) (j := 0) (q := 5) Y (Zo h_l3) Y Y (List.length_map ..) Y)<|Ent.closeS (r := 2) Y (Zo h_l3) Y)<|⟨_, h, ES [some 0, some 1, some 2, some 3, some 4] (hhp := .cons Y (ro1 (by exact tZ_59.symm)<|rld Y)<|.cons Y (ro1 (by exact tZ_59.symm)<|rlc (.dat Y)<|rlc (.dat Y)<|rlc (.own _ Y)<|rlc (.own _ Y)<|rlc (.own _ Y) rln)<|.cons Y (roO XD)<|.cons Y (roM D3)<|.cons Y (roM D4) .nil)⟩
          ·
           exact Dq 1 Y (Zt (ov Y) Y Y Y Ql Y)<|bE h fun l3 h_l3 h=>Do 7 Y (ZE (f := O22) (ov Y) (ZZ (o := ⟨22, [[.own 5 y5.length]]⟩) (ov Y) Y Y tZ_22) Z8 Y Y (Zb Y) Y h_l3)<|Dq 8 Y (Zl (ov Y) Y Y ZH)<|Do 9 Y (Zm (ov Y) (ov Y) (Zd Ql) Y Y Y (Nat.le_of_ble_eq_true Y) (Zb Y) Y)<|Z7 (by kernel_rfl) (Ent.trans (Ent.absorbH (r := 2) (j := 0) (q := 5) Y (Zo h_l3) Y Y (List.length_map ..) Y)<|Ent.closeS (r := 2) Y (Zo h_l3) Y)<|⟨_, h, ES [some 0, some 1, some 2, some 3, some 4] (hhp := .cons Y (ro1 (by exact tZ_59.symm)<|rld Y)<|.cons Y (ro1 (by exact tZ_59.symm)<|rlc (.dat Y)<|rlc (.dat Y)<|rlc (.own _ Y)<|rlc (.own _ Y)<|rlc (.own _ Y) rln)<|.cons Y (roO XD)<|.cons Y (roM D3)<|.cons Y (roM D4) .nil)⟩
        ·
         refine Dw 0 6 Y (Zl (ov Y) Y Y ZH) (Qw (r := 6) Y Z8 (.cons (cvs (ov Y)<|Zj Y) Y .nil) Y Y) ?_ ?_
         ·
          refine Dw 1 6 Y (Zt (ov Y) Y Y Y Ql Y) (Qw (r := 6) Y Z8 (.cons (cvs (ov Y)<|Zj Y) Y .nil) Y Y) ?_ ?_
          ·
           exact Do 6 Y (Qw (r := 6) Y Z8 (.cons (cvs (ov Y)<|Zj Y) Y .nil) Y Y)<|bE h fun l3 h_l3 h=>Do 7 Y (ZE (f := O22) (ov Y) (ZZ (o := ⟨22, [[.own 5 y5.length]]⟩) (ov Y) Y Y tZ_22) Z8 Y Y (Zb Y) Y h_l3)<|Dq 8 Y (Zl (ov Y) Y Y ZH)<|Do 9 Y (Zm (ov Y) (ov Y) (Zd Ql) Y Y Y (Nat.le_of_ble_eq_true Y) (Zb Y) Y)<|Z7 (by kernel_rfl) (Ent.trans (Ent.absorbH (r := 2) (j := 0) (q := 5) Y (Zo h_l3) Y Y (List.length_map ..) Y)<|Ent.closeS (r := 2) Y (Zo h_l3) Y)<|⟨_, h, ES [some 0, some 1, some 2, some 3, some 4] (hhp := .cons Y (ro1 (by exact tZ_59.symm)<|rld Y)<|.cons Y (ro1 (by exact tZ_59.symm)<|rlc (.dat Y)<|rlc (.dat Y)<|rlc (.own _ Y)<|rlc (.own _ Y)<|rlc (.own _ Y) rln)<|.cons Y (roO XD)<|.cons Y (roM D3)<|.cons Y (roM D4) .nil)⟩
          ·
           exact Dq 1 Y (Zt (ov Y) Y Y Y Ql Y)<|bE h fun l3 h_l3 h=>Do 7 Y (ZE (f := O22) (ov Y) (ZZ (o := ⟨22, [[.own 5 y5.length]]⟩) (ov Y) Y Y tZ_22) Z8 Y Y (Zb Y) Y h_l3)<|Dq 8 Y (Zl (ov Y) Y Y ZH)<|Do 9 Y (Zm (ov Y) (ov Y) (Zd Ql) Y Y Y (Nat.le_of_ble_eq_true Y) (Zb Y) Y)<|Z7 (by kernel_rfl) (Ent.trans (Ent.absorbH (r := 2) (j := 0) (q := 5) Y (Zo h_l3) Y Y (List.length_map ..) Y)<|Ent.closeS (r := 2) Y (Zo h_l3) Y)<|⟨_, h, ES [some 0, some 1, some 2, some 3, some 4] (hhp := .cons Y (ro1 (by exact tZ_59.symm)<|rld Y)<|.cons Y (ro1 (by exact tZ_59.symm)<|rlc (.dat Y)<|rlc (.dat Y)<|rlc (.own _ Y)<|rlc (.own _ Y)<|rlc (.own _ Y) rln)<|.cons Y (roO XD)<|.cons Y (roM D3)<|.cons Y (roM D4) .nil)⟩
         ·
          exact Dq 0 Y (Zl (ov Y) Y Y ZH)<|Dq 1 Y (Zt (ov Y) Y Y Y Ql Y)<|bE h fun l3 h_l3 h=>Do 7 Y (ZE (f := O22) (ov Y) (ZZ (o := ⟨22, [[.own 5 y5.length]]⟩) (ov Y) Y Y tZ_22) Z8 Y Y (Zb Y) Y h_l3)<|Dq 8 Y (Zl (ov Y) Y Y ZH)<|Do 9 Y (Zm (ov Y) (ov Y) (Zd Ql) Y Y Y (Nat.le_of_ble_eq_true Y) (Zb Y) Y)<|Z7 (by kernel_rfl) (Ent.trans (Ent.absorbH (r := 2) (j := 0) (q := 5) Y (Zo h_l3) Y Y (List.length_map ..) Y)<|Ent.closeS (r := 2) Y (Zo h_l3) Y)<|⟨_, h, ES [some 0, some 1, some 2, some 3, some 4] (hhp := .cons Y (ro1 (by exact tZ_59.symm)<|rld Y)<|.cons Y (ro1 (by exact tZ_59.symm)<|rlc (.dat Y)<|rlc (.dat Y)<|rlc (.own _ Y)<|rlc (.own _ Y)<|rlc (.own _ Y) rln)<|.cons Y (roO XD)<|.cons Y (roM D3)<|.cons Y (roM D4) .nil)⟩
     ·
      exact Zq<|R2 ZI Y<|Rm Y<|Za<|⟨_, h, ES [some 0, some 1, some 2, some 3, some 4] (hhp := .cons Y (ro1 (by exact tZ_59.symm)<|rld Y)<|.cons Y (ro1 (by exact tZ_59.symm)<|rlc (.dat Y)<|rlc (.dat Y)<|rlc (.own _ Y)<|rlc (.own _ Y)<|rlc (.own _ Y) rln)<|.cons Y (roO XD)<|.cons Y (roM D3)<|.cons Y (roM D4) .nil)⟩
    ·
     refine ZD<|?_
     replace h := lx h ▸ ho1
     exact ⟨_, h, ES [some 0, some 1, some 2, some 3, some 4] (hhp := .cons Y (ro1 (by exact tZ_59.symm)<|rld Y)<|.cons Y (ro1 (by exact tZ_59.symm)<|rlc (.dat Y)<|rlc (.dat Y)<|rlc (.own _ Y)<|rlc (.own _ Y)<|rlc (.own _ Y) rln)<|.cons Y (roO XD)<|.cons Y (roM D3)<|.cons Y (roM D4) .nil)⟩
   ·
    refine Tr<|Rq Y (QE (ov Y) Y Y Y Jt Y Y)<|Rx Y (Zm (ov Y) (ov Y) (Zy Jt Y) Y Y Y (Nat.le_of_ble_eq_true Y) (Zb Y) Y)<|Ra Y<|Za<|?_
    obtain rfl := rt h
    exact Zn (ZN Y (.two (.agg Y Y Y Y Jt Y Y<|.cons (Dat.view<|.b Y)<|.cons (Dat.view<|.b Y)<|.cons (View.ownO Y Y XD (fun x=>(D22 x).1) ZlO)<|.cons (View.ownM Y Y D3)<|.cons (View.ownM Y Y D4) .nil)<|rb Y))
end Go.Proofs.YtgohgnaapbpggaaGreatDoor
