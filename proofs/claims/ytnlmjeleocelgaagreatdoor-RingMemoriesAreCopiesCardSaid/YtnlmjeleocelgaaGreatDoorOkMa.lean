/- A text of the proof: a verified executor of the program form, or the contracts of the functions that the law reaches. -/
import Derived.Test.YtnlmjeleocelgaaGreatDoorVT
import Derived.Test.YtnlmjeleocelgaaGreatDoorPA
import Derived.Test.YtnlmjeleocelgaaGreatDoorShT
import Derived.Test.YtnlmjeleocelgaaGreatDoorProg
import Derived.Test.YtnlmjeleocelgaaGreatDoorLayZ
set_option linter.all false
namespace Go.Proofs.YtnlmjeleocelgaaGreatDoor
open Go Go.Vx
set_option maxRecDepth 10000
set_option maxHeartbeats 1000000
set_option linter.unusedVariables false
theorem tZ_5 : Tryz.prog.cellsOf 5 = 1 := by kernel_rfl
instance : SzD Tryz.prog 5 1 := ⟨tZ_5⟩
theorem tZ_49 : Tryz.prog.cellsOf 49 = 1 := by kernel_rfl
instance : SzD Tryz.prog 49 1 := ⟨tZ_49⟩
theorem tZ_3 : Tryz.prog.cellsOf 3 = 1 := by kernel_rfl
instance : SzD Tryz.prog 3 1 := ⟨tZ_3⟩
theorem tZ_4 : Tryz.prog.cellsOf 4 = 1 := by kernel_rfl
instance : SzD Tryz.prog 4 1 := ⟨tZ_4⟩
theorem tZ_26 : Tryz.prog.cellsOf 26 = 5 := by kernel_rfl
instance : SzD Tryz.prog 26 5 := ⟨tZ_26⟩
theorem tZ_44 : Tryz.prog.cellsOf 44 = 66 := by kernel_rfl
instance : SzD Tryz.prog 44 66 := ⟨tZ_44⟩
theorem Zbh : tSl Tryz.prog 33 26 5 88 = true := by kernel_rfl
theorem XS : tAgg Tryz.prog 26 5 = true := by kernel_rfl
theorem Zc4 : Jt Tryz.prog 26 = some [.int .i64 0, .int .i64 0, .slice none 0 0, .slice none 0 0, .slice none 0 0] := by kernel_rfl
theorem ZF : tFld Tryz.prog 26 2 2 = true := by kernel_rfl
theorem Qc : tScal Tryz.prog 22 = true := by kernel_rfl
theorem ZZ : tSl Tryz.prog 22 49 1 24 = true := by kernel_rfl
theorem ZgI : tScal Tryz.prog 49 = true := by kernel_rfl
theorem QU : tSl Tryz.prog 49 5 1 1 = true := by kernel_rfl
theorem Q3 : tSl Tryz.prog 23 3 1 8 = true := by kernel_rfl
theorem ZdZ : tFld Tryz.prog 26 3 3 = true := by kernel_rfl
theorem Zje : tScal Tryz.prog 23 = true := by kernel_rfl
theorem ZfA : tSl Tryz.prog 24 4 1 1 = true := by kernel_rfl
theorem Zes : tFld Tryz.prog 26 4 4 = true := by kernel_rfl
theorem Zjw : tScal Tryz.prog 24 = true := by kernel_rfl
theorem Zgw : tFld Tryz.prog 26 0 0 = true := by kernel_rfl
theorem tS3 : tScal Tryz.prog 3 = true := by kernel_rfl
theorem ZjD : tFld Tryz.prog 26 1 1 = true := by kernel_rfl
theorem ZpM : Zc0 Tryz.prog 102 = some [(0, 2), (2, 1), (3, 1), (4, 1), (5, 1), (6, 1)] := by kernel_rfl
theorem ZpQ : Zfz Tryz.prog 102 = true := by kernel_rfl
theorem Zqp : Jt Tryz.prog 102 = some [.slice none 0 0, .slice none 0 0, .int .i64 0, .bool false, .bool false, .int .i64 0, .bool false] := by kernel_rfl
theorem ZqJ : tAgg Tryz.prog 102 7 = true := by kernel_rfl
theorem ZpC : (match Tryz.prog.underlying 49 with | some (.slice _) => true | _ => false) = true := by kernel_rfl
theorem Zpu : (match Tryz.prog.underlying 23 with | some (.slice _) => true | _ => false) = true := by kernel_rfl
theorem Zqa : (match Tryz.prog.underlying 24 with | some (.slice _) => true | _ => false) = true := by kernel_rfl
theorem ZdE : tFld Tryz.prog 102 0 0 = true := by kernel_rfl
theorem ZcN : tFld Tryz.prog 100 0 0 = true := by kernel_rfl
theorem ZjN : tScal Tryz.prog 33 = true := by kernel_rfl
theorem Zkb : Jt Tryz.prog 105 = some [.int .i64 0, .int .i64 0] := by kernel_rfl
theorem tZ_105 : Tryz.prog.cellsOf 105 = 2 := by kernel_rfl
instance : SzD Tryz.prog 105 2 := ⟨tZ_105⟩
theorem Zq0 : Jt Tryz.prog 92 = some [.nilFunc] := by kernel_rfl
theorem tZ_92 : Tryz.prog.cellsOf 92 = 1 := by kernel_rfl
instance : SzD Tryz.prog 92 1 := ⟨tZ_92⟩
theorem Zp3 : tScal Tryz.prog 92 = true := by kernel_rfl
theorem Zjd : tArr Tryz.prog 225 16 5 1 = true := by kernel_rfl
theorem tS5 : tScal Tryz.prog 5 = true := by kernel_rfl
theorem tI5 : tInt Tryz.prog 5 .u8 = true := by kernel_rfl
theorem tI3 : tInt Tryz.prog 3 .i64 = true := by kernel_rfl
theorem tS4 : tScal Tryz.prog 4 = true := by kernel_rfl
theorem ZfJ : tInt Tryz.prog 132 .u64 = true := by kernel_rfl
theorem ZlO : Zc0 Tryz.prog 105 = some [(0, 1), (1, 1)] := by kernel_rfl
theorem ZlI : Zfz Tryz.prog 105 = true := by kernel_rfl
theorem Zg1 : tAgg Tryz.prog 105 2 = true := by kernel_rfl
theorem Zgc : tFld Tryz.prog 105 0 0 = true := by kernel_rfl
theorem ZlZ : tArr Tryz.prog 224 97 5 1 = true := by kernel_rfl
theorem Zg4 : tFld Tryz.prog 105 1 1 = true := by kernel_rfl
theorem Zfd : tFld Tryz.prog 100 1 1 = true := by kernel_rfl
theorem ZlN : tScal Tryz.prog 98 = true := by kernel_rfl
theorem ZlG : tSl Tryz.prog 98 105 2 16 = true := by kernel_rfl
theorem Zke : tFld Tryz.prog 102 2 3 = true := by kernel_rfl
theorem tZ_102 : Tryz.prog.cellsOf 102 = 7 := by kernel_rfl
instance : SzD Tryz.prog 102 7 := ⟨tZ_102⟩
theorem tZ3 : Jt Tryz.prog 3 = some [.int .i64 0] := by kernel_rfl
theorem Zhg : Jt Tryz.prog 42 = some [.int .u16 0, .int .u16 0, .int .u16 0, .int .u16 0, .int .u16 0, .int .u16 0, .int .u16 0, .int .u16 0, .int .u16 0, .int .u16 0, .int .u16 0, .int .u16 0, .int .u16 0, .int .u16 0, .int .u16 0, .int .u16 0, .int .u16 0, .int .u16 0, .int .u16 0, .int .u16 0, .int .u16 0, .int .u16 0, .int .u16 0, .int .u16 0, .int .u16 0, .int .u16 0, .int .u16 0, .int .u16 0, .int .u16 0, .int .u16 0, .int .u16 0, .int .u16 0, .int .u16 0, .int .u16 0, .int .u16 0, .int .u16 0, .int .u16 0, .int .u16 0, .int .u16 0, .int .u16 0, .int .u16 0, .int .u16 0, .int .u16 0, .int .u16 0, .int .u16 0, .int .u16 0, .int .u16 0, .int .u16 0, .int .u16 0, .int .u16 0, .int .u16 0, .int .u16 0, .int .u16 0, .int .u16 0, .int .u16 0, .int .u16 0, .int .u16 0, .int .u16 0, .int .u16 0, .int .u16 0, .int .u16 0, .int .u16 0, .int .u16 0, .int .u16 0] := by kernel_rfl
theorem tZ_42 : Tryz.prog.cellsOf 42 = 64 := by kernel_rfl
instance : SzD Tryz.prog 42 64 := ⟨tZ_42⟩
theorem Za1 : tArr Tryz.prog 42 64 40 1 = true := by kernel_rfl
theorem JW : tAgg Tryz.prog 42 64 = true := by kernel_rfl
theorem Zd7 : tInt Tryz.prog 40 .u16 = true := by kernel_rfl
theorem ZbX : tScal Tryz.prog 40 = true := by kernel_rfl
theorem Zo9 : tArr Tryz.prog 196 4 3 1 = true := by kernel_rfl
theorem Zqg : Jt Tryz.prog 196 = some [.int .i64 0, .int .i64 0, .int .i64 0, .int .i64 0] := by kernel_rfl
theorem Zjk : Zc0 Tryz.prog 26 = some [(0, 1), (1, 1), (2, 1), (3, 1), (4, 1)] := by kernel_rfl
theorem Zi1 : Zfz Tryz.prog 26 = true := by kernel_rfl
theorem tZ4 : Jt Tryz.prog 4 = some [.bool false] := by kernel_rfl
theorem tZ5 : Jt Tryz.prog 5 = some [.int .u8 0] := by kernel_rfl
theorem Zl2 : tFld Tryz.prog 102 3 4 = true := by kernel_rfl
theorem Zi6 : Zc0 Tryz.prog 149 = some [(0, 1), (1, 1)] := by kernel_rfl
theorem ZjE : Zfz Tryz.prog 149 = true := by kernel_rfl
theorem Zlh : Jt Tryz.prog 149 = some [.int .i64 0, .int .i64 0] := by kernel_rfl
theorem ZeQ : tSl Tryz.prog 108 149 2 16 = true := by kernel_rfl
theorem tZ_149 : Tryz.prog.cellsOf 149 = 2 := by kernel_rfl
instance : SzD Tryz.prog 149 2 := ⟨tZ_149⟩
theorem Zqq : tArr Tryz.prog 150 4 40 1 = true := by kernel_rfl
theorem ZlQ : tStr Tryz.prog 9 = true := by kernel_rfl
theorem tB4 : (match Tryz.prog.underlying 4 with | some .bool => true | _ => false) = true := by kernel_rfl
theorem Zoo : tFld Tryz.prog 102 1 2 = true := by kernel_rfl
theorem Zo3 : Jt Tryz.prog 157 = some [.int .u8 0, .int .u8 0, .int .u8 0, .int .u8 0, .int .u8 0, .int .u8 0, .int .u8 0, .int .u8 0, .int .u8 0, .int .u8 0, .int .u8 0, .int .u8 0, .int .u8 0, .int .u8 0, .int .u8 0, .int .u8 0, .int .u8 0, .int .u8 0, .int .u8 0, .int .u8 0, .int .u8 0, .int .u8 0, .int .u8 0, .int .u8 0, .int .u8 0, .int .u8 0, .int .u8 0, .int .u8 0, .int .u8 0, .int .u8 0, .int .u8 0, .int .u8 0, .int .u8 0, .int .u8 0, .int .u8 0, .int .u8 0, .int .u8 0, .int .u8 0, .int .u8 0, .int .u8 0, .int .u8 0, .int .u8 0, .int .u8 0, .int .u8 0, .int .u8 0, .int .u8 0, .int .u8 0, .int .u8 0, .int .u8 0, .int .u8 0, .int .u8 0, .int .u8 0, .int .u8 0, .int .u8 0, .int .u8 0, .int .u8 0, .int .u8 0, .int .u8 0, .int .u8 0, .int .u8 0, .int .u8 0, .int .u8 0, .int .u8 0, .int .u8 0, .int .u8 0, .int .u8 0, .int .u8 0, .int .u8 0, .int .u8 0, .int .u8 0, .int .u8 0, .int .u8 0, .int .u8 0, .int .u8 0, .int .u8 0, .int .u8 0, .int .u8 0, .int .u8 0, .int .u8 0, .int .u8 0, .int .u8 0, .int .u8 0, .int .u8 0, .int .u8 0, .int .u8 0, .int .u8 0, .int .u8 0, .int .u8 0, .int .u8 0, .int .u8 0, .int .u8 0, .int .u8 0, .int .u8 0, .int .u8 0, .int .u8 0, .int .u8 0] := by kernel_rfl
theorem tZ_157 : Tryz.prog.cellsOf 157 = 96 := by kernel_rfl
instance : SzD Tryz.prog 157 96 := ⟨tZ_157⟩
theorem Zeb : tArr Tryz.prog 157 96 5 1 = true := by kernel_rfl
theorem Zor : tFld Tryz.prog 102 4 5 = true := by kernel_rfl
theorem ZoV : tFld Tryz.prog 102 5 6 = true := by kernel_rfl
theorem ZoX : tAgg Tryz.prog 157 96 = true := by kernel_rfl
theorem Zqs : Zc0 Tryz.prog 65 = some [(0, 1), (1, 1), (2, 1), (3, 1), (4, 64)] := by kernel_rfl
theorem ZqS : Zfz Tryz.prog 65 = true := by kernel_rfl
theorem ZpT : Jt Tryz.prog 65 = some ([.int .i64 0, .int .i64 0, .int .i64 0, .int .i64 0] ++ (List.flatten (List.replicate 64 [.int .u16 0]))) := by kernel_rfl
theorem Zow : tSl Tryz.prog 60 65 68 160 = true := by kernel_rfl
theorem tZ_65 : Tryz.prog.cellsOf 65 = 68 := by kernel_rfl
instance : SzD Tryz.prog 65 68 := ⟨tZ_65⟩
theorem ZkD : tMap Tryz.prog 127 3 65 = true := by kernel_rfl
theorem Zo8 : Zmc Tryz.prog 65 = some (.agg (([.int .i64 0, .int .i64 0, .int .i64 0, .int .i64 0] ++ (List.flatten (List.replicate 64 [.int .u16 0]))) : List Value).toArray) := by kernel_rfl
theorem Zoq : tAgg Tryz.prog 65 68 = true := by kernel_rfl
theorem Znw : tFld Tryz.prog 65 4 4 = true := by kernel_rfl
theorem ZmX : tFld Tryz.prog 65 2 2 = true := by kernel_rfl
theorem tZ_127 : Tryz.prog.cellsOf 127 = 1 := by kernel_rfl
instance : SzD Tryz.prog 127 1 := ⟨tZ_127⟩
theorem Zov : Zm1 Tryz.prog 65 4 4 42 64 = true := by kernel_rfl
theorem ZoL : tSl Tryz.prog 66 42 64 128 = true := by kernel_rfl
theorem ZqV : tSl Tryz.prog 34 44 66 144 = true := by kernel_rfl
theorem ZqH : tAgg Tryz.prog 44 66 = true := by kernel_rfl
theorem Zrg : Jt Tryz.prog 44 = some ([.bool false] ++ (List.flatten (List.replicate 64 [.int .u16 0])) ++ [.int .i64 0]) := by kernel_rfl
theorem ZpN : tFld Tryz.prog 44 1 1 = true := by kernel_rfl
theorem ZpL : tFld Tryz.prog 44 2 65 = true := by kernel_rfl
theorem Zqm : tU8 Tryz.prog 5 = true := by kernel_rfl
def gl0 : Gl := ⟨1, [(0, (gv_frame_syncs.toList.map fun z => Value.int .u16 z).toArray)]⟩
def R5 (x : Int) : List AV := [.int .u8 x]
def R49 (x : List Int) : List AV := [.sl 5 (List.map R5 x)]
def R3 (x : Int) : List AV := [.int .i64 x]
def R4 (x : Bool) : List AV := [.bool x]
def R26 (x : api_Memory) : List AV := [.int .i64 x.Slots, .int .i64 x.Limit, .sl 49 (List.map R49 x.Sectors), .sl 3 (List.map R3 x.Wear), .sl 4 (List.map R4 x.Bad)]
def C40 (x : Int) : AV := .int .u16 x
def R44 (x : law3_Deed) : List AV := (.bool x.Freeze) :: ((List.map C40 x.Frame.toList) ++ ((.int .i64 x.Power) :: []))
theorem D49 (x : List Int) : (R49 x).length = Tryz.prog.cellsOf 49 ∧ (R49 x).all datB = true := ⟨tZ_49.symm, rfl⟩
instance : RowD Tryz.prog 49 R49 := ⟨D49⟩
theorem D5 (x : Int) : (R5 x).length = Tryz.prog.cellsOf 5 ∧ (R5 x).all datB = true := ⟨tZ_5.symm, rfl⟩
instance : RowD Tryz.prog 5 R5 := ⟨D5⟩
theorem DR5 (x : Int) : (R5 x).length = Tryz.prog.cellsOf 5 ∧ Zdb Tryz.prog (R5 x) := ⟨(D5 x).1, dlF rfl⟩
def O49 (x : List Int) : List AV := [.osub 5 (List.map R5 x)]
theorem Xi (x : List Int) : (O49 x).length = Tryz.prog.cellsOf 49 ∧ Zdb Tryz.prog (O49 x) := ⟨tZ_49.symm, dlC (dcS DR5) <| dlN⟩
theorem Zpl (x : List Int) : Pw (MeltC Tryz.prog) (O49 x) (R49 x) := .cons (mcS DR5 (fun x => (D5 x).1) (fun _ => mcF rfl)) <| .nil
theorem D3 (x : Int) : (R3 x).length = Tryz.prog.cellsOf 3 ∧ (R3 x).all datB = true := ⟨tZ_3.symm, rfl⟩
instance : RowD Tryz.prog 3 R3 := ⟨D3⟩
theorem D4 (x : Bool) : (R4 x).length = Tryz.prog.cellsOf 4 ∧ (R4 x).all datB = true := ⟨tZ_4.symm, rfl⟩
instance : RowD Tryz.prog 4 R4 := ⟨D4⟩
theorem D26 (x : api_Memory) : (R26 x).length = Tryz.prog.cellsOf 26 ∧ (R26 x).all datB = true := ⟨tZ_26.symm, rfl⟩
instance : RowD Tryz.prog 26 R26 := ⟨D26⟩
theorem DR3 (x : Int) : (R3 x).length = Tryz.prog.cellsOf 3 ∧ Zdb Tryz.prog (R3 x) := ⟨(D3 x).1, dlF rfl⟩
theorem DR4 (x : Bool) : (R4 x).length = Tryz.prog.cellsOf 4 ∧ Zdb Tryz.prog (R4 x) := ⟨(D4 x).1, dlF rfl⟩
def O26 (x : api_Memory) : List AV := [.int .i64 x.Slots, .int .i64 x.Limit, .osub 49 (List.map O49 x.Sectors), .osub 3 (List.map R3 x.Wear), .osub 4 (List.map R4 x.Bad)]
theorem QR (x : api_Memory) : (O26 x).length = Tryz.prog.cellsOf 26 ∧ Zdb Tryz.prog (O26 x) := ⟨tZ_26.symm, dlC (.flat rfl) <| dlC (.flat rfl) <| dlC (dcS Xi) <| dlC (dcS DR3) <| dlC (dcS DR4) <| dlN⟩
theorem Zju (x : api_Memory) : Pw (MeltC Tryz.prog) (O26 x) (R26 x) := .cons (.dat rfl) <| .cons (.dat rfl) <| .cons (mcS Xi (fun x => (D49 x).1) Zpl) <| .cons (mcS DR3 (fun x => (D3 x).1) (fun _ => mcF rfl)) <| .cons (mcS DR4 (fun x => (D4 x).1) (fun _ => mcF rfl)) <| .nil
def C5 (x : Int) : AV := .int .u8 x
def R105 (x : ring_spot) : List AV := [.int .i64 x.sector, .int .i64 x.slot]
theorem D105 (x : ring_spot) : (R105 x).length = Tryz.prog.cellsOf 105 ∧ (R105 x).all datB = true := ⟨tZ_105.symm, rfl⟩
instance : RowD Tryz.prog 105 R105 := ⟨D105⟩
def C3 (x : Int) : AV := .int .i64 x
def R149 (x : api_Flaw) : List AV := [.int .i64 x.Word, .int .i64 x.Kind]
theorem D149 (x : api_Flaw) : (R149 x).length = Tryz.prog.cellsOf 149 ∧ (R149 x).all datB = true := ⟨tZ_149.symm, rfl⟩
instance : RowD Tryz.prog 149 R149 := ⟨D149⟩
theorem at1 {a0 : AV} {a1 : AV} {a2 : AV} {a3 : AV} {v4 : Vector Int 64} : At ((a0) :: (a1) :: (a2) :: (a3) :: ((List.map C40 v4.toList) ++ ([]))) 0 1 ([a0]) := at0 (hdc (n := 0) hd0)
theorem pt2 {a0 : AV} {a1 : AV} {a2 : AV} {a3 : AV} {v4 : Vector Int 64} {b0 : AV} : Put ((a0) :: (a1) :: (a2) :: (a3) :: ((List.map C40 v4.toList) ++ ([]))) 0 ([b0]) ((b0) :: (a1) :: (a2) :: (a3) :: ((List.map C40 v4.toList) ++ ([]))) := ZoC
theorem at3 {a0 : AV} {a1 : AV} {a2 : AV} {a3 : AV} {v4 : Vector Int 64} : At ((a0) :: (a1) :: (a2) :: (a3) :: ((List.map C40 v4.toList) ++ ([]))) 1 1 ([a1]) := atc (o := 0) (at0 (hdc (n := 0) hd0))
theorem pt4 {a0 : AV} {a1 : AV} {a2 : AV} {a3 : AV} {v4 : Vector Int 64} {b1 : AV} : Put ((a0) :: (a1) :: (a2) :: (a3) :: ((List.map C40 v4.toList) ++ ([]))) 1 ([b1]) ((a0) :: (b1) :: (a2) :: (a3) :: ((List.map C40 v4.toList) ++ ([]))) := ZjS (o := 0) (ZoC)
theorem at5 {a0 : AV} {a1 : AV} {a2 : AV} {a3 : AV} {v4 : Vector Int 64} : At ((a0) :: (a1) :: (a2) :: (a3) :: ((List.map C40 v4.toList) ++ ([]))) 2 1 ([a2]) := atc (o := 1) (atc (o := 0) (at0 (hdc (n := 0) hd0)))
theorem pt6 {a0 : AV} {a1 : AV} {a2 : AV} {a3 : AV} {v4 : Vector Int 64} {b2 : AV} : Put ((a0) :: (a1) :: (a2) :: (a3) :: ((List.map C40 v4.toList) ++ ([]))) 2 ([b2]) ((a0) :: (a1) :: (b2) :: (a3) :: ((List.map C40 v4.toList) ++ ([]))) := ZjS (o := 1) (ZjS (o := 0) (ZoC))
theorem at7 {a0 : AV} {a1 : AV} {a2 : AV} {a3 : AV} {v4 : Vector Int 64} : At ((a0) :: (a1) :: (a2) :: (a3) :: ((List.map C40 v4.toList) ++ ([]))) 3 1 ([a3]) := atc (o := 2) (atc (o := 1) (atc (o := 0) (at0 (hdc (n := 0) hd0))))
theorem pt8 {a0 : AV} {a1 : AV} {a2 : AV} {a3 : AV} {v4 : Vector Int 64} {b3 : AV} : Put ((a0) :: (a1) :: (a2) :: (a3) :: ((List.map C40 v4.toList) ++ ([]))) 3 ([b3]) ((a0) :: (a1) :: (a2) :: (b3) :: ((List.map C40 v4.toList) ++ ([]))) := ZjS (o := 2) (ZjS (o := 1) (ZjS (o := 0) (ZoC)))
theorem at9 {a0 : AV} {a1 : AV} {a2 : AV} {a3 : AV} {v4 : Vector Int 64} : At ((a0) :: (a1) :: (a2) :: (a3) :: ((List.map C40 v4.toList) ++ ([]))) 4 64 ((List.map C40 v4.toList)) := atc (o := 3) (atc (o := 2) (atc (o := 1) (atc (o := 0) (at0 (hdw arL)))))
theorem Zq7 {a0 : AV} {a1 : AV} {a2 : AV} {a3 : AV} {v4 : Vector Int 64} {w4 : Vector Int 64} : Put ((a0) :: (a1) :: (a2) :: (a3) :: ((List.map C40 v4.toList) ++ ([]))) 4 ((List.map C40 w4.toList)) ((a0) :: (a1) :: (a2) :: (a3) :: ((List.map C40 w4.toList) ++ ([]))) := ZjS (o := 3) (ZjS (o := 2) (ZjS (o := 1) (ZjS (o := 0) (Zrk (Eq.trans arL (Eq.symm arL))))))
theorem Zd3 {a0 : AV} {a1 : AV} {a2 : AV} {a3 : AV} {v4 : Vector Int 64} : ((a0) :: (a1) :: (a2) :: (a3) :: ((List.map C40 v4.toList) ++ ([]))).length = 68 := lnC (n := 67) (lnC (n := 66) (lnC (n := 65) (lnC (n := 64) (lnA (m := 64) (n := 0) arL (lnN)))))
theorem Zgz {x0 : Int} {x1 : Int} {x2 : Int} {x3 : Int} {v4 : Vector Int 64} : ((.int .i64 x0) :: (.int .i64 x1) :: (.int .i64 x2) :: (.int .i64 x3) :: ((List.map C40 v4.toList) ++ ([]))).all datB = true := alC rfl (alC rfl (alC rfl (alC rfl (alA (arD fun _ => rfl) (alN)))))
def R65 (x : api_Kept) : List AV := (.int .i64 x.Memory) :: (.int .i64 x.Sector) :: (.int .i64 x.Sequence) :: (.int .i64 x.Slot) :: ((List.map C40 x.Frame.toList) ++ ([]))
theorem ZpY {x0 : Int} {x1 : Int} {x2 : Int} {x3 : Int} {v4 : Vector Int 64} : ((.int .i64 x0) :: (.int .i64 x1) :: (.int .i64 x2) :: (.int .i64 x3) :: ((List.map C40 v4.toList) ++ ([]))).all c1B = true := alC rfl (alC rfl (alC rfl (alC rfl (alA (arC fun _ => rfl) (alN)))))
theorem E65 (x : api_Kept) : (R65 x).all c1B = true := ZpY
theorem D65 (x : api_Kept) : (R65 x).length = Tryz.prog.cellsOf 65 ∧ (R65 x).all datB = true := ⟨Eq.trans (b := 68) Zd3 tZ_65.symm, Zgz⟩
instance : RowD Tryz.prog 65 R65 := ⟨D65⟩
def FK3 (x : Int) : AV := .int .i64 x
theorem Zpy : KeyOK Tryz.prog 3 FK3 kqI := ZoN (fun _ => rfl) tI3
def Zgl (x : api_Kept) : AV := .agg ((.int .i64 x.Memory) :: (.int .i64 x.Sector) :: (.int .i64 x.Sequence) :: (.int .i64 x.Slot) :: ((List.map C40 x.Frame.toList) ++ ([])))
theorem Zrb {x0 : Int} {x1 : Int} {x2 : Int} {x3 : Int} {v4 : Vector Int 64} : NS ((.int .i64 x0) :: (.int .i64 x1) :: (.int .i64 x2) :: (.int .i64 x3) :: ((List.map C40 v4.toList) ++ ([]))) := nsC rfl (nsC rfl (nsC rfl (nsC rfl (nsA (nsM fun _ => rfl) (nsR rfl)))))
def R42 (x : Vector Int 64) : List AV := (List.map C40 x.toList)
theorem E42 (x : Vector Int 64) : (R42 x).all c1B = true := (arC fun _ => rfl)
theorem D42 (x : Vector Int 64) : (R42 x).length = Tryz.prog.cellsOf 42 ∧ (R42 x).all datB = true := ⟨Eq.trans (b := 64) arL tZ_42.symm, (arD fun _ => rfl)⟩
instance : RowD Tryz.prog 42 R42 := ⟨D42⟩
theorem ZqN : ZpG Tryz.prog 42 ((List.replicate 64 ([.i .u16])).flatten) := ⟨by kernel_rfl, by kernel_rfl, by kernel_rfl⟩
theorem ZkW {a0 : AV} {v1 : Vector Int 64} {a2 : AV} : ((a0) :: ((List.map C40 v1.toList) ++ ((a2) :: []))).length = 66 := lnC (n := 65) (lnA (m := 64) (n := 1) arL (lnC (n := 0) (lnN)))
theorem Zrc {x0 : Bool} {v1 : Vector Int 64} {x2 : Int} : ((.bool x0) :: ((List.map C40 v1.toList) ++ ((.int .i64 x2) :: []))).all c1B = true := alC rfl (alA (arC fun _ => rfl) (alC rfl (alN)))
theorem ZqX {a0 : AV} {v1 : Vector Int 64} {a2 : AV} : At ((a0) :: ((List.map C40 v1.toList) ++ ((a2) :: []))) 1 64 ((List.map C40 v1.toList)) := atc (o := 0) (at0 (hdw arL))
theorem Zrj {a0 : AV} {v1 : Vector Int 64} {a2 : AV} : At ((a0) :: ((List.map C40 v1.toList) ++ ((a2) :: []))) 65 1 ([a2]) := atc (o := 64) (ata (m := 64) (o := 0) arL (at0 (hdc (n := 0) hd0)))
theorem Zi0 {m : api_Memory} {r : api_Memory} (h : ZeJ m = some r) :
 GSpec Tryz.prog gl0 14 [.agg [.int .i64 m.Slots, .int .i64 m.Limit, .sl 49 (List.map R49 m.Sectors), .sl 3 (List.map R3 m.Wear), .sl 4 (List.map R4 m.Bad)]] [] (.agg [.int .i64 r.Slots, .int .i64 r.Limit, .own 0 r.Sectors.length, .own 1 r.Wear.length, .own 2 r.Bad.length]) [some ⟨49, List.map O49 r.Sectors⟩, some ⟨3, List.map R3 r.Wear⟩, some ⟨4, List.map R4 r.Bad⟩] := by
 unfold ZeJ at h
 replace h := QF h
 refine QO (by kernel_rfl) Tryz.func14 Y Y<|?_
 intro w0 A W φ0
 refine Tr<|Rq Y (ZcB (cva<|ov Y) Y tZ_26 Y)<|Rx Y (Qf (row := [_, _, _, _, _]) 0 Y Zc4 Y tZ_26)<|Za<|K2 1 2 Y<|Tr<|Rq Y (Q6 (ov Y) XS Y Y)<|Rx Y (Qf (row := [_, _, _, _, _]) 1 Y Zc4 Y tZ_26)<|Rx Y (Zh (ov Y) (ov Y) (ZC XS Y) Y Y Y (Nat.le_of_ble_eq_true Y) (Zb Y) Y)<|Za<|K3 1 2 3 Y<|Tr<|Rq Y (Zf (ov Y) Y Y ZF)<|Rx Y (Zh (ov Y) (ov Y) (Zd Qc) Y Y Y (Nat.le_of_ble_eq_true Y) (Zb Y) Y)<|Za<|I1 (fun Sectors=>⟨[(1, .rp [.int .i64 m.Slots, .int .i64 m.Limit, .sl 49 (List.map R49 m.Sectors), .sl 3 (List.map R3 m.Wear), .sl 4 (List.map R4 m.Bad)] 0), (2, .ptr 0 1 0 0), (3, .ptr 1 1 0 0)], [some ⟨26, [[.int .i64 0, .int .i64 0, .nils, .nils, .nils]]⟩, some ⟨26, [[.int .i64 m.Slots, .int .i64 m.Limit, .own 2 Sectors.length, .sl 3 (List.map R3 m.Wear), .sl 4 (List.map R4 m.Bad)]]⟩, some ⟨49, List.map O49 Sectors⟩]⟩) h (fun h=>?_) fun Sectors h=>?_
 ·
  refine K3 1 2 3 Y<|Tr<|Rq Y (ZT (ov Y) ZF)<|Rq Y (Ze (ov Y) Qc Y)<|Rl tZ_49 ZZ Y<|Rm Y<|Za<|Zg<|?_
  obtain ⟨r1, hl1, ho1⟩ := Xj h
  refine L2 (fun Sectors2 i=>⟨[(1, .rp [.int .i64 m.Slots, .int .i64 m.Limit, .sl 49 (List.map R49 m.Sectors), .sl 3 (List.map R3 m.Wear), .sl 4 (List.map R4 m.Bad)] 0), (2, .ptr 0 1 0 0), (3, .ptr 1 1 0 0), (9, .sl 49 (List.map R49 m.Sectors)), (10, .int .i64 (m.Sectors.length : Int)), (11, .int .i64 i)], [some ⟨26, [[.int .i64 0, .int .i64 0, .nils, .nils, .nils]]⟩, some ⟨26, [[.int .i64 m.Slots, .int .i64 m.Limit, .own 2 Sectors2.length, .sl 3 (List.map R3 m.Wear), .sl 4 (List.map R4 m.Bad)]]⟩, some ⟨49, List.map O49 Sectors2⟩]⟩) hl1 (ES [some 0, some 1, none]) fun n1 Sectors2 i h=>?_
  unfold ZbW at h
  refine Tr<|R2 ZY Y<|Za<|Zj<|If h Y (fun h=>?_) fun h=>?_
  ·
   refine Zi<|I1 (fun Sectors3=>⟨[(1, .rp [.int .i64 m.Slots, .int .i64 m.Limit, .sl 49 (List.map R49 m.Sectors), .sl 3 (List.map R3 m.Wear), .sl 4 (List.map R4 m.Bad)] 0), (2, .ptr 0 1 0 0), (3, .ptr 1 1 0 0), (9, .sl 49 (List.map R49 m.Sectors)), (10, .int .i64 (m.Sectors.length : Int)), (11, .int .i64 i)], [some ⟨26, [[.int .i64 0, .int .i64 0, .nils, .nils, .nils]]⟩, some ⟨26, [[.int .i64 m.Slots, .int .i64 m.Limit, .own 2 Sectors3.length, .sl 3 (List.map R3 m.Wear), .sl 4 (List.map R4 m.Bad)]]⟩, some ⟨49, List.map O49 Sectors3⟩]⟩) h (fun h=>?_) fun Sectors3 h=>?_
   ·
    refine Zg<|K6 1 2 3 9 10 11 Y<|Tr<|bE h fun x h_x h=>Rq Y (Ql (ov Y) (ov Y) ZZ h_x)<|Rq Y (Ze (ov Y) ZgI Y)<|Ra Y<|Za<|K7 1 2 3 5 9 10 11 Y<|QH (cw := ⟨true, false, [], [], []⟩) (by kernel_rfl)<|Z9 3 _ Y (by kernel_rfl) Y Y (fun hp'=>Zc<|ov Y)<|Dw 0 2 Y (Zf (ov Y) Y Y ZF) (Ze4 (r := 3) (xs := ([] : List Int)) (f := R5) Y QU .nil Y Y Y) ?_ ?_
    ·
     refine Dw 1 2 Y (Zu (ov Y) Y Y Y Qc Y) (Ze4 (r := 3) (xs := ([] : List Int)) (f := R5) Y QU .nil Y Y Y) ?_ ?_
     ·
      exact Do 2 Y (Ze4 (r := 3) (xs := ([] : List Int)) (f := R5) Y QU .nil Y Y Y)<|bE h fun l h_l h=>Do 4 Y (JX (ov Y) (QY (ov Y) tZ_5) QU Y Y (fun _=>Zb Y) Y h_l)<|Do 5 Y (Qn (r := 4) Y ZZ (.cons (cvs (ov Y)<|Zm Y) Y .nil) Y Y)<|bE h fun l2 h_l2 h=>Do 6 Y (ZA (f := O49) (ov Y) (ZV (o := ⟨49, [[.own 3 l.length]]⟩) (ov Y) Y Y tZ_49) ZZ Y Y (Zb Y) Y h_l2)<|Dq 7 Y (Zf (ov Y) Y Y ZF)<|Do 8 Y (Zh (ov Y) (ov Y) (Zd Qc) Y Y Y (Nat.le_of_ble_eq_true Y) (Zb Y) Y)<|Z4 (by kernel_rfl) (Ent.trans (Ent.absorbH (r := 2) (j := 0) (q := 3) Y (Zk h_l2) Y Y (List.length_map ..) Y)<|Ent.closeS (r := 2) Y (Zk h_l2) Y)<|⟨_, h, ES [some 0, some 1, some 2] (hhp := .cons Y (ro1 (by exact tZ_26.symm)<|rld Y)<|.cons Y (ro1 (by exact tZ_26.symm)<|rlc (.dat Y)<|rlc (.dat Y)<|rlc (.own _ Y)<|rlc (.dat Y)<|rlc (.dat Y) rln)<|.cons Y (roO Xi) .nil)⟩
     ·
      refine bE h fun l h_l h=>Dw 1 4 Y (Zu (ov Y) Y Y Y Qc Y) (JX (ov Y) (QY (ov Y) tZ_5) QU Y Y (fun _=>Zb Y) Y h_l) ?_ ?_
      ·
       exact Do 4 Y (JX (ov Y) (QY (ov Y) tZ_5) QU Y Y (fun _=>Zb Y) Y h_l)<|Do 5 Y (Qn (r := 4) Y ZZ (.cons (cvs (ov Y)<|Zm Y) Y .nil) Y Y)<|bE h fun l2 h_l2 h=>Do 6 Y (ZA (f := O49) (ov Y) (ZV (o := ⟨49, [[.own 3 l.length]]⟩) (ov Y) Y Y tZ_49) ZZ Y Y (Zb Y) Y h_l2)<|Dq 7 Y (Zf (ov Y) Y Y ZF)<|Do 8 Y (Zh (ov Y) (ov Y) (Zd Qc) Y Y Y (Nat.le_of_ble_eq_true Y) (Zb Y) Y)<|Z4 (by kernel_rfl) (Ent.trans (Ent.absorbH (r := 2) (j := 0) (q := 3) Y (Zk h_l2) Y Y (List.length_map ..) Y)<|Ent.closeS (r := 2) Y (Zk h_l2) Y)<|⟨_, h, ES [some 0, some 1, some 2] (hhp := .cons Y (ro1 (by exact tZ_26.symm)<|rld Y)<|.cons Y (ro1 (by exact tZ_26.symm)<|rlc (.dat Y)<|rlc (.dat Y)<|rlc (.own _ Y)<|rlc (.dat Y)<|rlc (.dat Y) rln)<|.cons Y (roO Xi) .nil)⟩
      ·
       refine Dw 1 5 Y (Zu (ov Y) Y Y Y Qc Y) (Qn (r := 4) Y ZZ (.cons (cvs (ov Y)<|Zm Y) Y .nil) Y Y) ?_ ?_
       ·
        exact Do 5 Y (Qn (r := 4) Y ZZ (.cons (cvs (ov Y)<|Zm Y) Y .nil) Y Y)<|bE h fun l2 h_l2 h=>Do 6 Y (ZA (f := O49) (ov Y) (ZV (o := ⟨49, [[.own 3 l.length]]⟩) (ov Y) Y Y tZ_49) ZZ Y Y (Zb Y) Y h_l2)<|Dq 7 Y (Zf (ov Y) Y Y ZF)<|Do 8 Y (Zh (ov Y) (ov Y) (Zd Qc) Y Y Y (Nat.le_of_ble_eq_true Y) (Zb Y) Y)<|Z4 (by kernel_rfl) (Ent.trans (Ent.absorbH (r := 2) (j := 0) (q := 3) Y (Zk h_l2) Y Y (List.length_map ..) Y)<|Ent.closeS (r := 2) Y (Zk h_l2) Y)<|⟨_, h, ES [some 0, some 1, some 2] (hhp := .cons Y (ro1 (by exact tZ_26.symm)<|rld Y)<|.cons Y (ro1 (by exact tZ_26.symm)<|rlc (.dat Y)<|rlc (.dat Y)<|rlc (.own _ Y)<|rlc (.dat Y)<|rlc (.dat Y) rln)<|.cons Y (roO Xi) .nil)⟩
       ·
        exact Dq 1 Y (Zu (ov Y) Y Y Y Qc Y)<|bE h fun l2 h_l2 h=>Do 6 Y (ZA (f := O49) (ov Y) (ZV (o := ⟨49, [[.own 3 l.length]]⟩) (ov Y) Y Y tZ_49) ZZ Y Y (Zb Y) Y h_l2)<|Dq 7 Y (Zf (ov Y) Y Y ZF)<|Do 8 Y (Zh (ov Y) (ov Y) (Zd Qc) Y Y Y (Nat.le_of_ble_eq_true Y) (Zb Y) Y)<|Z4 (by kernel_rfl) (Ent.trans (Ent.absorbH (r := 2) (j := 0) (q := 3) Y (Zk h_l2) Y Y (List.length_map ..) Y)<|Ent.closeS (r := 2) Y (Zk h_l2) Y)<|⟨_, h, ES [some 0, some 1, some 2] (hhp := .cons Y (ro1 (by exact tZ_26.symm)<|rld Y)<|.cons Y (ro1 (by exact tZ_26.symm)<|rlc (.dat Y)<|rlc (.dat Y)<|rlc (.own _ Y)<|rlc (.dat Y)<|rlc (.dat Y) rln)<|.cons Y (roO Xi) .nil)⟩
    ·
     refine bE h fun l h_l h=>Dw 0 4 Y (Zf (ov Y) Y Y ZF) (JX (ov Y) (QY (ov Y) tZ_5) QU Y Y (fun _=>Zb Y) Y h_l) ?_ ?_
     ·
      refine Dw 1 4 Y (Zu (ov Y) Y Y Y Qc Y) (JX (ov Y) (QY (ov Y) tZ_5) QU Y Y (fun _=>Zb Y) Y h_l) ?_ ?_
      ·
       exact Do 4 Y (JX (ov Y) (QY (ov Y) tZ_5) QU Y Y (fun _=>Zb Y) Y h_l)<|Do 5 Y (Qn (r := 4) Y ZZ (.cons (cvs (ov Y)<|Zm Y) Y .nil) Y Y)<|bE h fun l2 h_l2 h=>Do 6 Y (ZA (f := O49) (ov Y) (ZV (o := ⟨49, [[.own 3 l.length]]⟩) (ov Y) Y Y tZ_49) ZZ Y Y (Zb Y) Y h_l2)<|Dq 7 Y (Zf (ov Y) Y Y ZF)<|Do 8 Y (Zh (ov Y) (ov Y) (Zd Qc) Y Y Y (Nat.le_of_ble_eq_true Y) (Zb Y) Y)<|Z4 (by kernel_rfl) (Ent.trans (Ent.absorbH (r := 2) (j := 0) (q := 3) Y (Zk h_l2) Y Y (List.length_map ..) Y)<|Ent.closeS (r := 2) Y (Zk h_l2) Y)<|⟨_, h, ES [some 0, some 1, some 2] (hhp := .cons Y (ro1 (by exact tZ_26.symm)<|rld Y)<|.cons Y (ro1 (by exact tZ_26.symm)<|rlc (.dat Y)<|rlc (.dat Y)<|rlc (.own _ Y)<|rlc (.dat Y)<|rlc (.dat Y) rln)<|.cons Y (roO Xi) .nil)⟩
      ·
       refine Dw 1 5 Y (Zu (ov Y) Y Y Y Qc Y) (Qn (r := 4) Y ZZ (.cons (cvs (ov Y)<|Zm Y) Y .nil) Y Y) ?_ ?_
       ·
        exact Do 5 Y (Qn (r := 4) Y ZZ (.cons (cvs (ov Y)<|Zm Y) Y .nil) Y Y)<|bE h fun l2 h_l2 h=>Do 6 Y (ZA (f := O49) (ov Y) (ZV (o := ⟨49, [[.own 3 l.length]]⟩) (ov Y) Y Y tZ_49) ZZ Y Y (Zb Y) Y h_l2)<|Dq 7 Y (Zf (ov Y) Y Y ZF)<|Do 8 Y (Zh (ov Y) (ov Y) (Zd Qc) Y Y Y (Nat.le_of_ble_eq_true Y) (Zb Y) Y)<|Z4 (by kernel_rfl) (Ent.trans (Ent.absorbH (r := 2) (j := 0) (q := 3) Y (Zk h_l2) Y Y (List.length_map ..) Y)<|Ent.closeS (r := 2) Y (Zk h_l2) Y)<|⟨_, h, ES [some 0, some 1, some 2] (hhp := .cons Y (ro1 (by exact tZ_26.symm)<|rld Y)<|.cons Y (ro1 (by exact tZ_26.symm)<|rlc (.dat Y)<|rlc (.dat Y)<|rlc (.own _ Y)<|rlc (.dat Y)<|rlc (.dat Y) rln)<|.cons Y (roO Xi) .nil)⟩
       ·
        exact Dq 1 Y (Zu (ov Y) Y Y Y Qc Y)<|bE h fun l2 h_l2 h=>Do 6 Y (ZA (f := O49) (ov Y) (ZV (o := ⟨49, [[.own 3 l.length]]⟩) (ov Y) Y Y tZ_49) ZZ Y Y (Zb Y) Y h_l2)<|Dq 7 Y (Zf (ov Y) Y Y ZF)<|Do 8 Y (Zh (ov Y) (ov Y) (Zd Qc) Y Y Y (Nat.le_of_ble_eq_true Y) (Zb Y) Y)<|Z4 (by kernel_rfl) (Ent.trans (Ent.absorbH (r := 2) (j := 0) (q := 3) Y (Zk h_l2) Y Y (List.length_map ..) Y)<|Ent.closeS (r := 2) Y (Zk h_l2) Y)<|⟨_, h, ES [some 0, some 1, some 2] (hhp := .cons Y (ro1 (by exact tZ_26.symm)<|rld Y)<|.cons Y (ro1 (by exact tZ_26.symm)<|rlc (.dat Y)<|rlc (.dat Y)<|rlc (.own _ Y)<|rlc (.dat Y)<|rlc (.dat Y) rln)<|.cons Y (roO Xi) .nil)⟩
     ·
      refine Dw 0 5 Y (Zf (ov Y) Y Y ZF) (Qn (r := 4) Y ZZ (.cons (cvs (ov Y)<|Zm Y) Y .nil) Y Y) ?_ ?_
      ·
       refine Dw 1 5 Y (Zu (ov Y) Y Y Y Qc Y) (Qn (r := 4) Y ZZ (.cons (cvs (ov Y)<|Zm Y) Y .nil) Y Y) ?_ ?_
       ·
        exact Do 5 Y (Qn (r := 4) Y ZZ (.cons (cvs (ov Y)<|Zm Y) Y .nil) Y Y)<|bE h fun l2 h_l2 h=>Do 6 Y (ZA (f := O49) (ov Y) (ZV (o := ⟨49, [[.own 3 l.length]]⟩) (ov Y) Y Y tZ_49) ZZ Y Y (Zb Y) Y h_l2)<|Dq 7 Y (Zf (ov Y) Y Y ZF)<|Do 8 Y (Zh (ov Y) (ov Y) (Zd Qc) Y Y Y (Nat.le_of_ble_eq_true Y) (Zb Y) Y)<|Z4 (by kernel_rfl) (Ent.trans (Ent.absorbH (r := 2) (j := 0) (q := 3) Y (Zk h_l2) Y Y (List.length_map ..) Y)<|Ent.closeS (r := 2) Y (Zk h_l2) Y)<|⟨_, h, ES [some 0, some 1, some 2] (hhp := .cons Y (ro1 (by exact tZ_26.symm)<|rld Y)<|.cons Y (ro1 (by exact tZ_26.symm)<|rlc (.dat Y)<|rlc (.dat Y)<|rlc (.own _ Y)<|rlc (.dat Y)<|rlc (.dat Y) rln)<|.cons Y (roO Xi) .nil)⟩
       ·
        exact Dq 1 Y (Zu (ov Y) Y Y Y Qc Y)<|bE h fun l2 h_l2 h=>Do 6 Y (ZA (f := O49) (ov Y) (ZV (o := ⟨49, [[.own 3 l.length]]⟩) (ov Y) Y Y tZ_49) ZZ Y Y (Zb Y) Y h_l2)<|Dq 7 Y (Zf (ov Y) Y Y ZF)<|Do 8 Y (Zh (ov Y) (ov Y) (Zd Qc) Y Y Y (Nat.le_of_ble_eq_true Y) (Zb Y) Y)<|Z4 (by kernel_rfl) (Ent.trans (Ent.absorbH (r := 2) (j := 0) (q := 3) Y (Zk h_l2) Y Y (List.length_map ..) Y)<|Ent.closeS (r := 2) Y (Zk h_l2) Y)<|⟨_, h, ES [some 0, some 1, some 2] (hhp := .cons Y (ro1 (by exact tZ_26.symm)<|rld Y)<|.cons Y (ro1 (by exact tZ_26.symm)<|rlc (.dat Y)<|rlc (.dat Y)<|rlc (.own _ Y)<|rlc (.dat Y)<|rlc (.dat Y) rln)<|.cons Y (roO Xi) .nil)⟩
      ·
       exact Dq 0 Y (Zf (ov Y) Y Y ZF)<|Dq 1 Y (Zu (ov Y) Y Y Y Qc Y)<|bE h fun l2 h_l2 h=>Do 6 Y (ZA (f := O49) (ov Y) (ZV (o := ⟨49, [[.own 3 l.length]]⟩) (ov Y) Y Y tZ_49) ZZ Y Y (Zb Y) Y h_l2)<|Dq 7 Y (Zf (ov Y) Y Y ZF)<|Do 8 Y (Zh (ov Y) (ov Y) (Zd Qc) Y Y Y (Nat.le_of_ble_eq_true Y) (Zb Y) Y)<|Z4 (by kernel_rfl) (Ent.trans (Ent.absorbH (r := 2) (j := 0) (q := 3) Y (Zk h_l2) Y Y (List.length_map ..) Y)<|Ent.closeS (r := 2) Y (Zk h_l2) Y)<|⟨_, h, ES [some 0, some 1, some 2] (hhp := .cons Y (ro1 (by exact tZ_26.symm)<|rld Y)<|.cons Y (ro1 (by exact tZ_26.symm)<|rlc (.dat Y)<|rlc (.dat Y)<|rlc (.own _ Y)<|rlc (.dat Y)<|rlc (.dat Y) rln)<|.cons Y (roO Xi) .nil)⟩
   ·
    exact Zt<|R2 ZX Y<|Rm Y<|Za<|⟨_, h, ES [some 0, some 1, some 2] (hhp := .cons Y (ro1 (by exact tZ_26.symm)<|rld Y)<|.cons Y (ro1 (by exact tZ_26.symm)<|rlc (.dat Y)<|rlc (.dat Y)<|rlc (.own _ Y)<|rlc (.dat Y)<|rlc (.dat Y) rln)<|.cons Y (roO Xi) .nil)⟩
  ·
   refine ZS<|?_
   replace h := lx h ▸ ho1
   exact ⟨_, h, ES [some 0, some 1, some 2] (hhp := .cons Y (ro1 (by exact tZ_26.symm)<|rld Y)<|.cons Y (ro1 (by exact tZ_26.symm)<|rlc (.dat Y)<|rlc (.dat Y)<|rlc (.own _ Y)<|rlc (.dat Y)<|rlc (.dat Y) rln)<|.cons Y (roO Xi) .nil)⟩
 ·
  refine Tr<|Rx Y (Ze4 (r := 3) (xs := ([] : List Int)) (f := R3) Y Q3 .nil Y Y Y)<|Rq Y (ZT (ov Y) ZdZ)<|Rq Y (Ze (ov Y) Zje Y)<|bE h fun l3 h_l3 h=>Rx Y (JX (ov Y) (QY (ov Y) tZ_3) Q3 Y Y (fun _=>Zb Y) Y h_l3)<|Rq Y (Zf (ov Y) Y Y ZdZ)<|Rx Y (Zh (ov Y) (ov Y) (Zd Zje) Y Y Y (Nat.le_of_ble_eq_true Y) (Zb Y) Y)<|Za<|K3 1 2 3 Y<|QP [some ⟨26, [[.int .i64 0, .int .i64 0, .nils, .nils, .nils]]⟩, some ⟨26, [[.int .i64 m.Slots, .int .i64 m.Limit, .own 2 Sectors.length, .own 3 l3.length, .sl 4 (List.map R4 m.Bad)]]⟩, some ⟨49, List.map O49 Sectors⟩, some ⟨3, List.map R3 l3⟩] Y<|Tr<|Rx Y (Ze4 (r := 4) (xs := ([] : List Bool)) (f := R4) Y ZfA .nil Y Y Y)<|Rq Y (ZT (ov Y) Zes)<|Rq Y (Ze (ov Y) Zjw Y)<|bE h fun l4 h_l4 h=>Rx Y (JX (ov Y) (QY (ov Y) tZ_4) ZfA Y Y (fun _=>Zb Y) Y h_l4)<|Rq Y (Zf (ov Y) Y Y Zes)<|Rx Y (Zh (ov Y) (ov Y) (Zd Zjw) Y Y Y (Nat.le_of_ble_eq_true Y) (Zb Y) Y)<|Za<|K2 2 3 Y<|QP [some ⟨26, [[.int .i64 0, .int .i64 0, .nils, .nils, .nils]]⟩, some ⟨26, [[.int .i64 m.Slots, .int .i64 m.Limit, .own 2 Sectors.length, .own 3 l3.length, .own 4 l4.length]]⟩, some ⟨49, List.map O49 Sectors⟩, some ⟨3, List.map R3 l3⟩, some ⟨4, List.map R4 l4⟩] Y<|Tr<|Rq Y (QB (ov Y) Y Y Y XS Y Y)<|Rx Y (Zh (ov Y) (ov Y) (ZC XS Y) Y Y Y (Nat.le_of_ble_eq_true Y) (Zb Y) Y)<|Za<|?_
  obtain rfl := rt h
  exact Zp<|Za2 [some 2, some 3, some 4] Y (.cons (.agg Y Y Y Y XS Y Y) .nil) (.cons Y (roO Xi)<|.cons Y (roM D3)<|.cons Y (roM D4) .nil) Y Y<|Zd2<|rlc (.dat Y)<|rlc (.dat Y)<|rlc (.own _ Y)<|rlc (.own _ Y)<|rlc (.own _ Y) rln
theorem QS {n : Int} {low : Int} {high : Int} {r : Bool} (h : Qo n low high = some r) :
 CSpec Tryz.prog gl0 54 [.int .i64 n, .int .i64 low, .int .i64 high] (.bool r) := by
 unfold Qo at h
 replace h := QF h
 refine So Tryz.func54 Y fun w0 A=>Tr<|Ra Y<|Za<|Tr<|Rm Y<|Rm Y<|R2 Zjx Y<|Rm Y<|Rq Y (.guarded ((decide (low ≤ n)) == true) Y Y Y Y fun h => Zc<|ov Y)<|Rq Y (.guarded ((decide (low ≤ n)) == true) Y Y Y Y fun h => Zc<|ov Y)<|Rq Y (.guarded ((decide (low ≤ n)) == true) Y Y Y Y fun h => Zj1 (ow Y h)<|ow Y h)<|Rq Y (ZaZ (ov Y) fun hp=>ow Y<|gT hp)<|Ra Y<|Za<|?_
 obtain rfl := rt h
 exact Zp (Z5 Y (.one<|rb Y))
theorem Qj {slots : Int} {r : Int} (h : Xh slots = some r) :
 CSpec Tryz.prog gl0 56 [.int .i64 slots] (.int .i64 r) := by
 unfold Xh at h
 replace h := QF h
 refine So Tryz.func56 Y fun w0 A=>Tr<|Ra Y<|Za<|Tr<|Rm Y<|R2 ZgG Y<|R2 ZX Y<|Ra Y<|Za<|?_
 obtain rfl := rt h
 exact Zp (Z5 Y (.one<|rb Y))
theorem Zgm {m : api_Memory} {r : Int} (h : QX m = some r) :
 CSpec Tryz.prog gl0 43 [.agg [.int .i64 m.Slots, .int .i64 m.Limit, .sl 49 (List.map R49 m.Sectors), .sl 3 (List.map R3 m.Wear), .sl 4 (List.map R4 m.Bad)]] (.int .i64 r) := by
 unfold QX at h
 replace h := QF h
 refine So Tryz.func43 Y fun w0 A=>Tr<|Rq Y (ZcB (cva<|ov Y) Y tZ_26 Y)<|Ra Y<|Za<|K1 1 Y<|Tr<|Rq Y (ZT (ov Y) ZF)<|Rq Y (Ze (ov Y) Qc Y)<|Rl tZ_49 ZZ Y<|Ra Y<|Za<|Zj<|Zg<|K2 1 3 Y<|Tr<|Rq Y (ZT (ov Y) Zgw)<|Rq Y (Ze (ov Y) tS3 Y)<|bE h fun y h_y h=>Rq Y (Zw (QS h_y)<|.cons (ov Y) (.b Y)<|.cons (ov Y) (.b Y)<|.cons (ov Y) (.b Y) .nil)<|R1 J7 Y<|Rm Y<|Rq Y (.guarded ((!y) == false) Y Y Y Y fun h => ZT (ov Y) ZjD)<|Rq Y (.guarded ((!y) == false) Y Y Y Y fun h => Ze (ow Y h) tS3 Y)<|bE h fun y2 h_y2 h=>Rq Y (.guarded ((!y) == false) Y Y Y Y fun h => Zw (QS<|gdT h_y2 h)<|.cons (ow Y h) (.b Y)<|.cons (ov Y) (.b Y)<|.cons (ov Y) (.b Y) .nil)<|Rq Y (.guarded ((!y) == false) Y Y Y Y fun h => J7<|ow Y h)<|Rq Y (ZhW (ov Y) fun hp=>ow Y<|gF hp)<|Rm Y<|Rq Y (.guarded (((!y) || (!y2)) == false) Y Y Y Y fun h => Zc<|ov Y)<|bE h fun y3 h_y3 h=>Rq Y (.guarded (((!y) || (!y2)) == false) Y Y Y Y fun h => Zw (QS<|gdT h_y3 h)<|.cons (ow Y h) (.b Y)<|.cons (ov Y) (.b Y)<|.cons (ov Y) (.b Y) .nil)<|Rq Y (.guarded (((!y) || (!y2)) == false) Y Y Y Y fun h => J7<|ow Y h)<|Rq Y (ZhW (ov Y) fun hp=>ow Y<|gF hp)<|Ra Y<|Za<|K3 1 3 9 Y<|If h Y (fun h=>?_) fun h=>?_
 ·
  refine K0<|Tr<|Ra Y<|Za<|?_
  obtain rfl := rt h
  exact Zp (Z5 Y (.one<|rb Y))
 ·
  refine K2 1 3 Y<|Tr<|Rq Y (ZT (ov Y) ZdZ)<|Rq Y (Ze (ov Y) Zje Y)<|Rl tZ_3 Q3 Y<|Rm Y<|R2 Jc Y<|Rm Y<|Rq Y (.guarded ((!decide ((m.Wear.length : Int) = (m.Sectors.length : Int))) == false) Y Y Y Y fun h => ZT (ov Y) Zes)<|Rq Y (.guarded ((!decide ((m.Wear.length : Int) = (m.Sectors.length : Int))) == false) Y Y Y Y fun h => Ze (ow Y h) Zjw Y)<|Rq Y (.guarded ((!decide ((m.Wear.length : Int) = (m.Sectors.length : Int))) == false) Y Y Y Y fun h => ZkH (QY (ow Y h) tZ_4) ZfA<|ZgX _ _)<|Rq Y (.guarded ((!decide ((m.Wear.length : Int) = (m.Sectors.length : Int))) == false) Y Y Y Y fun h => Zc<|ov Y)<|Rq Y (.guarded ((!decide ((m.Wear.length : Int) = (m.Sectors.length : Int))) == false) Y Y Y Y fun h => Jc (ow Y h)<|ow Y h)<|Rq Y (ZhW (ov Y) fun hp=>ow Y<|gF hp)<|Ra Y<|Za<|K2 1 25 Y<|If h Y (fun h=>?_) fun h=>?_
  ·
   refine K0<|Tr<|Ra Y<|Za<|?_
   obtain rfl := rt h
   exact Zp (Z5 Y (.one<|rb Y))
  ·
   refine Zi<|J0 (fun j => (.inr j)) ⟨[], []⟩ h (fun h=>?_) fun h=>?_
   ·
    refine K1 1 Y<|Tr<|Rq Y (ZT (ov Y) ZF)<|Rq Y (Ze (ov Y) Qc Y)<|Rl tZ_49 ZZ Y<|Rm Y<|Za<|Zg<|?_
    obtain ⟨r1, hl1, ho1⟩ := Xj h
    refine L1 (fun i=>⟨[(1, .rp [.int .i64 m.Slots, .int .i64 m.Limit, .sl 49 (List.map R49 m.Sectors), .sl 3 (List.map R3 m.Wear), .sl 4 (List.map R4 m.Bad)] 0), (39, .sl 49 (List.map R49 m.Sectors)), (40, .int .i64 (m.Sectors.length : Int)), (41, .int .i64 i)], []⟩) hl1 (ES []) fun n1 i h=>?_
    unfold Qp at h
    refine Tr<|R2 ZY Y<|Za<|Zj<|If h Y (fun h=>?_) fun h=>?_
    ·
     refine Zi<|Zj<|Zg<|K4 1 39 40 41 Y<|Tr<|Rm Y<|bE h fun x h_x h=>Rq Y (Ql (ov Y) (ov Y) ZZ h_x)<|Rq Y (Ze (ov Y) ZgI Y)<|Ra Y<|Ra Y<|Za<|Zj<|K6 1 4 5 39 40 41 Y<|Tr<|Rm Y<|Rl tZ_5 QU Y<|Rq Y (ZT (ov Y) Zgw)<|Rq Y (Ze (ov Y) tS3 Y)<|bE h fun y4 h_y4 h=>Rq Y (Zw (Qj h_y4)<|.cons (ov Y) (.b Y) .nil)<|R2 Jc Y<|Za<|K6 1 4 39 40 41 51 Y<|If h Y (fun h=>?_) fun h=>?_
     ·
      refine K0<|Tr<|Ra Y<|Za<|?_
      replace h := lx h ▸ ho1
      obtain rfl := rt h
      exact Zp (Z5 Y (.one<|rb Y))
     ·
      refine Zi<|Zj<|K5 1 4 39 40 41 Y<|QH (cw := md0) (by kernel_rfl)<|Dq 0 Y (ZT (ov Y) ZdZ)<|Dq 1 Y (Ze (ov Y) Zje Y)<|D1 2 Zc Y<|bE h fun x2 h_x2 h=>Dq 3 Y (Ql (ov Y) (ov Y) Q3 h_x2)<|Dq 4 Y (Ze (ov Y) tS3 Y)<|Dq 5 Y (ZT (ov Y) ZjD)<|Dq 6 Y (Ze (ov Y) tS3 Y)<|bE h fun y5 h_y5 h=>Dq 7 Y (Zw (QS h_y5)<|.cons (ov Y) (.b Y)<|.cons (ov Y) (.b Y)<|.cons (ov Y) (.b Y) .nil)<|D1 8 J7 Y<|Dd<|K5 1 39 40 41 60 Y<|If h Y (fun h=>?_) fun h=>?_
      ·
       refine K0<|Tr<|Ra Y<|Za<|?_
       replace h := lx h ▸ ho1
       obtain rfl := rt h
       exact Zp (Z5 Y (.one<|rb Y))
      ·
       exact Zi<|K4 1 39 40 41 Y<|Zt<|R2 ZX Y<|Rm Y<|Za<|⟨_, h, ES []⟩
    ·
     refine ZS<|?_
     replace h := lx h ▸ ho1
     exact ⟨(), h, ES []⟩
   ·
    replace h := elr h
    replace h := t0i h
    refine Tr<|Ra Y<|Za<|?_
    obtain rfl := rt h
    exact Zp (Z5 Y (.one<|rb Y))
theorem ZeN {l : List api_Memory} {r : Int} (h : XE l = some r) :
 CSpec Tryz.prog gl0 62 [.sl 26 (List.map R26 l)] (.int .i64 r) := by
 unfold XE at h
 replace h := QF h
 refine So Tryz.func62 Y fun w0 A=>Tr<|Ra Y<|Za<|Zj<|K1 0 Y<|Tr<|Rm Y<|Rl tZ_26 Zbh Y<|bE h fun y h_y h=>Rq Y (Zw (QS h_y)<|.cons (ov Y) (.b Y)<|.cons (ov Y) (.b Y)<|.cons (ov Y) (.b Y) .nil)<|R1 J7 Y<|Za<|K2 0 9 Y<|If h Y (fun h=>?_) fun h=>?_
 ·
  refine K0<|Tr<|Ra Y<|Za<|?_
  obtain rfl := rt h
  exact Zp (Z5 Y (.one<|rb Y))
 ·
  refine Zi<|J0 (fun j => (.inr j)) ⟨[], []⟩ h (fun h=>?_) fun h=>?_
  ·
   refine K1 0 Y<|Tr<|Rm Y<|Rl tZ_26 Zbh Y<|Rm Y<|Za<|Zg<|?_
   obtain ⟨r1, hl1, ho1⟩ := Xj h
   refine L1 (fun i=>⟨[(10, .sl 26 (List.map R26 l)), (11, .int .i64 (l.length : Int)), (12, .int .i64 i)], []⟩) hl1 (ES []) fun n1 i h=>?_
   unfold ring_checkAll_L1 at h
   refine Tr<|R2 ZY Y<|Za<|Zj<|If h Y (fun h=>?_) fun h=>?_
   ·
    refine Zi<|Zj<|Zg<|K3 10 11 12 Y<|Tr<|bE h fun x h_x h=>Rq Y (Ql (ov Y) (ov Y) Zbh h_x)<|Rq Y (Q6 (ov Y) XS Y Y)<|Rx Y (Qf (row := [_, _, _, _, _]) 0 Y Zc4 Y tZ_26)<|Rx Y (Zh (ov Y) (ov Y) (ZC XS Y) Y Y Y (Nat.le_of_ble_eq_true Y) (Zb Y) Y)<|Za<|K4 4 10 11 12 Y<|Tr<|Rq Y (QB (ov Y) Y Y Y XS Y Y)<|bE h fun y2 h_y2 h=>Rq Y (Zw (Zgm h_y2)<|.cons (ov Y) (.aggB Y) .nil)<|Ra Y<|Za<|K4 5 10 11 12 Y<|Tr<|Rm Y<|R2 Jc Y<|Za<|K5 5 10 11 12 19 Y<|If h Y (fun h=>?_) fun h=>?_
    ·
     refine K1 5 Y<|Tr<|Rm Y<|Ra Y<|Za<|?_
     replace h := lx h ▸ ho1
     obtain rfl := rt h
     exact Zp (Z5 Y (.one<|rb Y))
    ·
     exact Zi<|K3 10 11 12 Y<|Zt<|R2 ZX Y<|Rm Y<|Za<|⟨_, h, ES []⟩
   ·
    refine ZS<|?_
    replace h := lx h ▸ ho1
    exact ⟨(), h, ES []⟩
  ·
   replace h := elr h
   replace h := t0i h
   refine Tr<|Ra Y<|Za<|?_
   obtain rfl := rt h
   exact Zp (Z5 Y (.one<|rb Y))
theorem Zk4 {xs r : List Int} (h : Zen 1 xs = some r) :
 GSpec Tryz.prog gl0 125 [.sl 5 (List.map R5 xs)] [] (.own 0 r.length) [some ⟨5, List.map R5 r⟩] := by
 have h2 : apz 1 [] xs = some r := h
 refine QO (by kernel_rfl) Tryz.func125 Y Y<|?_
 intro w0 A W φ0
 refine Tr<|Ra Y<|Za<|Zj<|Zj<|Zt<|Rm Y<|Zkm (ov Y) ZpC Y fun b hb=>?_
 refine Za<|Zkd Y (fun hb2=>?_) fun hb2=>?_
 ·
  obtain rfl : xs = [] := by simpa using hb hb2
  obtain rfl : r = [] := by simpa [app, apz] using h2.symm
  exact Tr<|Ra Y<|Za<|Zp<|Za2 [none] Y (.cons (.tmp Y) .nil) (.row 5 .nil) Y Y<|.row Y
 ·
  exact Zi<|Tr<|Rx Y (Ze4 (r := 0) (xs := []) (f := R5) Y QU .nil Y Y Y)<|Rm Y<|Rx Y (JX (ov Y) (QY (ov Y) tZ_5) QU Y Y (fun _=>Zb Y) Y h2)<|Ra Y<|Za<|Zp<|Za2 [some 0] Y (.cons (.tmp Y) .nil) (.cons Y (roM D5) .nil) Y Y<|.own _ Y
theorem Zir {xs r : List Int} (h : Zen 8 xs = some r) :
 GSpec Tryz.prog gl0 126 [.sl 3 (List.map R3 xs)] [] (.own 0 r.length) [some ⟨3, List.map R3 r⟩] := by
 have h2 : apz 8 [] xs = some r := h
 refine QO (by kernel_rfl) Tryz.func126 Y Y<|?_
 intro w0 A W φ0
 refine Tr<|Ra Y<|Za<|Zj<|Zj<|Zt<|Rm Y<|Zkm (ov Y) Zpu Y fun b hb=>?_
 refine Za<|Zkd Y (fun hb2=>?_) fun hb2=>?_
 ·
  obtain rfl : xs = [] := by simpa using hb hb2
  obtain rfl : r = [] := by simpa [app, apz] using h2.symm
  exact Tr<|Ra Y<|Za<|Zp<|Za2 [none] Y (.cons (.tmp Y) .nil) (.row 3 .nil) Y Y<|.row Y
 ·
  exact Zi<|Tr<|Rx Y (Ze4 (r := 0) (xs := []) (f := R3) Y Q3 .nil Y Y Y)<|Rm Y<|Rx Y (JX (ov Y) (QY (ov Y) tZ_3) Q3 Y Y (fun _=>Zb Y) Y h2)<|Ra Y<|Za<|Zp<|Za2 [some 0] Y (.cons (.tmp Y) .nil) (.cons Y (roM D3) .nil) Y Y<|.own _ Y
theorem Zin {xs r : List Bool} (h : Zen 1 xs = some r) :
 GSpec Tryz.prog gl0 127 [.sl 4 (List.map R4 xs)] [] (.own 0 r.length) [some ⟨4, List.map R4 r⟩] := by
 have h2 : apz 1 [] xs = some r := h
 refine QO (by kernel_rfl) Tryz.func127 Y Y<|?_
 intro w0 A W φ0
 refine Tr<|Ra Y<|Za<|Zj<|Zj<|Zt<|Rm Y<|Zkm (ov Y) Zqa Y fun b hb=>?_
 refine Za<|Zkd Y (fun hb2=>?_) fun hb2=>?_
 ·
  obtain rfl : xs = [] := by simpa using hb hb2
  obtain rfl : r = [] := by simpa [app, apz] using h2.symm
  exact Tr<|Ra Y<|Za<|Zp<|Za2 [none] Y (.cons (.tmp Y) .nil) (.row 4 .nil) Y Y<|.row Y
 ·
  exact Zi<|Tr<|Rx Y (Ze4 (r := 0) (xs := []) (f := R4) Y ZfA .nil Y Y Y)<|Rm Y<|Rx Y (JX (ov Y) (QY (ov Y) tZ_4) ZfA Y Y (fun _=>Zb Y) Y h2)<|Ra Y<|Za<|Zp<|Za2 [some 0] Y (.cons (.tmp Y) .nil) (.cons Y (roM D4) .nil) Y Y<|.own _ Y
theorem Zc8 {m : api_Memory} {r : api_Memory} (h : X0 m = some r) :
 GSpec Tryz.prog gl0 93 [.agg [.int .i64 m.Slots, .int .i64 m.Limit, .sl 49 (List.map R49 m.Sectors), .sl 3 (List.map R3 m.Wear), .sl 4 (List.map R4 m.Bad)]] [] (.agg [.int .i64 r.Slots, .int .i64 r.Limit, .own 0 r.Sectors.length, .own 1 r.Wear.length, .own 2 r.Bad.length]) [some ⟨49, List.map O49 r.Sectors⟩, some ⟨3, List.map R3 r.Wear⟩, some ⟨4, List.map R4 r.Bad⟩] := by
 unfold X0 at h
 replace h := QF h
 refine QO (by kernel_rfl) Tryz.func93 Y Y<|?_
 intro w0 A W φ0
 refine Tr<|Rx Y (Zmb 0 Y (ov Y) XS Y)<|Rx Y (Qf (row := [_, _, _, _, _]) 1 Y Zc4 Y tZ_26)<|Za<|K2 1 2 Y<|Tr<|Ra Y<|Za<|I1 (fun sectors=>⟨[(1, .ptr 0 1 0 0), (2, .ptr 1 1 0 0), (3, .own 2 sectors.length)], [some ⟨26, [[.int .i64 m.Slots, .int .i64 m.Limit, .sl 49 (List.map R49 m.Sectors), .sl 3 (List.map R3 m.Wear), .sl 4 (List.map R4 m.Bad)]]⟩, some ⟨26, [[.int .i64 0, .int .i64 0, .nils, .nils, .nils]]⟩, some ⟨49, List.map O49 sectors⟩]⟩) h (fun h=>?_) fun sectors h=>?_
 ·
  refine Tr<|Rq Y (Zf (ov Y) Y Y ZF)<|Rq Y (Zu (ov Y) Y Y Y Qc Y)<|Rl tZ_49 ZZ Y<|Rm Y<|Za<|Zg<|?_
  obtain ⟨r1, hl1, ho1⟩ := Xj h
  refine L2 (fun sectors2 i=>⟨[(1, .ptr 0 1 0 0), (2, .ptr 1 1 0 0), (3, .own 2 sectors2.length), (7, .sl 49 (List.map R49 m.Sectors)), (8, .int .i64 (m.Sectors.length : Int)), (9, .int .i64 i)], [some ⟨26, [[.int .i64 m.Slots, .int .i64 m.Limit, .sl 49 (List.map R49 m.Sectors), .sl 3 (List.map R3 m.Wear), .sl 4 (List.map R4 m.Bad)]]⟩, some ⟨26, [[.int .i64 0, .int .i64 0, .nils, .nils, .nils]]⟩, some ⟨49, List.map O49 sectors2⟩]⟩) hl1 (ES [some 0, some 1, none]) fun n1 sectors2 i h=>?_
  unfold Q8 at h
  refine Tr<|R2 ZY Y<|Za<|Zj<|If h Y (fun h=>?_) fun h=>?_
  ·
   exact Zi<|Zj<|Zg<|K6 1 2 3 7 8 9 Y<|Tr<|bE h fun x h_x h=>Rq Y (Ql (ov Y) (ov Y) ZZ h_x)<|Rq Y (Ze (ov Y) ZgI Y)<|Ra Y<|Za<|K7 1 2 3 5 7 8 9 Y<|Zt<|Rm Y<|Rm Y<|bE h fun y h_y h=>Rx Y (ZH [] (Zk4 h_y) (.cons (ov Y) (.dat Y) .nil) .nil Y (.keep Y Y<|.keep Y Y<|.keep Y Y<|.lent 0 (.inr ⟨Nat.le_of_ble_eq_true Y, Y⟩) Y (roM D5) .nil) Y Y<|.own _<|.inr ⟨Nat.le_of_ble_eq_true Y, Y⟩)<|Rx Y (Qn (r := 4) Y ZZ (.cons (cvs (ov Y)<|Zm Y) Y .nil) Y Y)<|bE h fun l h_l h=>Rx Y (ZA (f := O49) (ov Y) (ZV (o := ⟨49, [[.own 3 y.length]]⟩) (ov Y) Y Y tZ_49) ZZ Y Y (Zb Y) Y h_l)<|Ra Y<|ZeS [some ⟨26, [[.int .i64 m.Slots, .int .i64 m.Limit, .sl 49 (List.map R49 m.Sectors), .sl 3 (List.map R3 m.Wear), .sl 4 (List.map R4 m.Bad)]]⟩, some ⟨26, [[.int .i64 0, .int .i64 0, .nils, .nils, .nils]]⟩, some ⟨49, List.set (List.map O49 l) sectors2.length [.own 3 y.length]⟩, some ⟨5, List.map R5 y⟩, some ⟨49, [[.own 3 y.length]]⟩] Y<|Xf (Ent.absorbH (r := 2) (j := 0) (q := 3) Y (Zk h_l) Y Y (List.length_map ..) Y)<|Xf (Ent.closeS (r := 2) Y (Zk h_l) Y)<|Za<|K6 1 2 3 7 8 9 Y<|QP [some ⟨26, [[.int .i64 m.Slots, .int .i64 m.Limit, .sl 49 (List.map R49 m.Sectors), .sl 3 (List.map R3 m.Wear), .sl 4 (List.map R4 m.Bad)]]⟩, some ⟨26, [[.int .i64 0, .int .i64 0, .nils, .nils, .nils]]⟩, some ⟨49, List.map O49 l⟩, none, some ⟨49, [[.own 3 y.length]]⟩] Y<|Zt<|R2 ZX Y<|Rm Y<|Za<|⟨_, h, ES [some 0, some 1, some 2] (hhp := .cons Y (ro1 (by exact tZ_26.symm)<|rld Y)<|.cons Y (ro1 (by exact tZ_26.symm)<|rld Y)<|.cons Y (roO Xi) .nil)⟩
  ·
   refine ZS<|?_
   replace h := lx h ▸ ho1
   exact ⟨_, h, ES [some 0, some 1, some 2] (hhp := .cons Y (ro1 (by exact tZ_26.symm)<|rld Y)<|.cons Y (ro1 (by exact tZ_26.symm)<|rld Y)<|.cons Y (roO Xi) .nil)⟩
 ·
  refine Zj<|QH (cw := ⟨true, true, [some ⟨26, [[.int .i64 m.Slots, .int .i64 m.Limit, .sl 49 (List.map R49 m.Sectors), .sl 3 (List.map R3 m.Wear), .sl 4 (List.map R4 m.Bad)]]⟩, some ⟨26, [[.int .i64 0, .int .i64 0, .nils, .nils, .nils]]⟩, some ⟨49, List.map O49 sectors⟩], [], [0]⟩) (by kernel_rfl)<|Dq 1 Y (Zf (ov Y) Y Y ZdZ)<|Dq 2 Y (Zu (ov Y) Y Y Y Zje Y)<|Z9 0 _ Y (by kernel_rfl) Y Y (fun hp'=>Zc<|ov Y)<|Jr 4 _ Y (by kernel_rfl) Y Y Y (EL.ext<|.wr Y Y Y<|.keep<|.keep .nil) (fun hp' hx=>exW (r := 0) hx Y fun _ ho hn => Zf (ov Y) ho hn Zes)<|bE h fun y2 h_y2 h=>Znp 5 3 Y Y (by kernel_rfl) Y Y Y Y (fun h=>by cases h) (fun _=>by exact EL.ext (.wr rfl rfl rfl <| .keep <| .keep <| .nil)) (Zu (ov Y) Y Y Y Zjw Y) (ZH [] (Zir h_y2) (.cons (ov Y) (.dat Y) .nil) .nil Y (.keep Y Y<|.keep Y Y<|.keep Y Y<|.lent 0 (.inr ⟨Nat.le_of_ble_eq_true Y, Y⟩) Y (roM D3) .nil) Y Y<|.own _<|.inr ⟨Nat.le_of_ble_eq_true Y, Y⟩) ?_ ?_
  ·
   refine Jr 7 _ Y (by kernel_rfl) Y Y Y (EL.ext<|.wr Y Y Y<|.keep<|.keep .nil) (fun hp' hx=>exW (r := 0) hx Y fun _ ho hn => Zf (ov Y) ho hn ZF)<|Zav 3 _ _ Y (by kernel_rfl) Y Y (fun h=>by cases h) (fun _=>by exact EL.ext (.wr rfl rfl rfl <| .keep <| .keep <| .nil)) (ZH [] (Zir h_y2) (.cons (ov Y) (.dat Y) .nil) .nil Y (.keep Y Y<|.keep Y Y<|.keep Y Y<|.lent 0 (.inr ⟨Nat.le_of_ble_eq_true Y, Y⟩) Y (roM D3) .nil) Y Y<|.own _<|.inr ⟨Nat.le_of_ble_eq_true Y, Y⟩)<|bE h fun y3 h_y3 h=>Zav 6 _ _ Y (by kernel_rfl) Y Y (fun h=>by cases h) (fun _=>by exact EL.ext (.wr rfl rfl rfl <| .keep <| .keep <| .nil)) (ZH [] (Zin h_y3) (.cons (ov Y) (.dat Y) .nil) .nil Y (.keep Y Y<|.keep Y Y<|.keep Y Y<|.keep Y Y<|.lent 0 (.inr ⟨Nat.le_of_ble_eq_true Y, Y⟩) Y (roM D4) .nil) Y Y<|.own _<|.inr ⟨Nat.le_of_ble_eq_true Y, Y⟩)<|Zav 8 _ _ Y (by kernel_rfl) Y Y (fun h=>by cases h) (fun _=>by exact EL.ext (.wr rfl rfl rfl <| .keep <| .keep <| .nil)) (Zh (ov Y) (ov Y) (Zd Qc) Y Y Y (Nat.le_of_ble_eq_true Y) (Zb Y) Y)<|Dq 9 Y (Zf (ov Y) Y Y ZdZ)<|Zav 10 _ _ Y (by kernel_rfl) Y Y (fun h=>by cases h) (fun _=>by exact EL.ext (.wr rfl rfl rfl <| .keep <| .keep <| .nil)) (Zh (ov Y) (ov Y) (Zd Zje) Y Y Y (Nat.le_of_ble_eq_true Y) (Zb Y) Y)<|Dq 11 Y (Zf (ov Y) Y Y Zes)<|Zav 12 _ _ Y (by kernel_rfl) Y Y (fun h=>by cases h) (fun _=>by exact EL.ext (.wr rfl rfl rfl <| .keep <| .keep <| .nil)) (Zh (ov Y) (ov Y) (Zd Zjw) Y Y Y (Nat.le_of_ble_eq_true Y) (Zb Y) Y)<|Dd<|K2 1 2 Y<|QP [some ⟨26, [[.int .i64 m.Slots, .int .i64 m.Limit, .own 2 sectors.length, .own 3 y2.length, .own 4 y3.length]]⟩, some ⟨26, [[.int .i64 0, .int .i64 0, .nils, .nils, .nils]]⟩, some ⟨49, List.map O49 sectors⟩, some ⟨3, List.map R3 y2⟩, some ⟨4, List.map R4 y3⟩] Y<|Tr<|Rq Y (QB (ov Y) Y Y Y XS Y Y)<|Rx Y (Zh (ov Y) (ov Y) (ZC XS Y) Y Y Y (Nat.le_of_ble_eq_true Y) (Zb Y) Y)<|Za<|?_
   obtain rfl := rt h
   exact Zp<|Za2 [some 2, some 3, some 4] Y (.cons (.agg Y Y Y Y XS Y Y) .nil) (.cons Y (roO Xi)<|.cons Y (roM D3)<|.cons Y (roM D4) .nil) Y Y<|Zd2<|rlc (.dat Y)<|rlc (.dat Y)<|rlc (.own _ Y)<|rlc (.own _ Y)<|rlc (.own _ Y) rln
  ·
   refine Dq 5 Y (Zu (ov Y) Y Y Y Zjw Y)<|Jr 7 _ Y (by kernel_rfl) Y Y Y (EL.ext<|.wr Y Y Y<|.keep<|.keep .nil) (fun hp' hx=>exW (r := 0) hx Y fun _ ho hn => Zf (ov Y) ho hn ZF)<|bE h fun y3 h_y3 h=>Zav 6 _ _ Y (by kernel_rfl) Y Y (fun h=>by cases h) (fun _=>by exact EL.ext (.wr rfl rfl rfl <| .keep <| .keep <| .nil)) (ZH [] (Zin h_y3) (.cons (ov Y) (.dat Y) .nil) .nil Y (.keep Y Y<|.keep Y Y<|.keep Y Y<|.keep Y Y<|.lent 0 (.inr ⟨Nat.le_of_ble_eq_true Y, Y⟩) Y (roM D4) .nil) Y Y<|.own _<|.inr ⟨Nat.le_of_ble_eq_true Y, Y⟩)<|Zav 8 _ _ Y (by kernel_rfl) Y Y (fun h=>by cases h) (fun _=>by exact EL.ext (.wr rfl rfl rfl <| .keep <| .keep <| .nil)) (Zh (ov Y) (ov Y) (Zd Qc) Y Y Y (Nat.le_of_ble_eq_true Y) (Zb Y) Y)<|Dq 9 Y (Zf (ov Y) Y Y ZdZ)<|Zav 10 _ _ Y (by kernel_rfl) Y Y (fun h=>by cases h) (fun _=>by exact EL.ext (.wr rfl rfl rfl <| .keep <| .keep <| .nil)) (Zh (ov Y) (ov Y) (Zd Zje) Y Y Y (Nat.le_of_ble_eq_true Y) (Zb Y) Y)<|Dq 11 Y (Zf (ov Y) Y Y Zes)<|Zav 12 _ _ Y (by kernel_rfl) Y Y (fun h=>by cases h) (fun _=>by exact EL.ext (.wr rfl rfl rfl <| .keep <| .keep <| .nil)) (Zh (ov Y) (ov Y) (Zd Zjw) Y Y Y (Nat.le_of_ble_eq_true Y) (Zb Y) Y)<|Dd<|K2 1 2 Y<|QP [some ⟨26, [[.int .i64 m.Slots, .int .i64 m.Limit, .own 2 sectors.length, .own 3 y2.length, .own 4 y3.length]]⟩, some ⟨26, [[.int .i64 0, .int .i64 0, .nils, .nils, .nils]]⟩, some ⟨49, List.map O49 sectors⟩, some ⟨3, List.map R3 y2⟩, some ⟨4, List.map R4 y3⟩] Y<|Tr<|Rq Y (QB (ov Y) Y Y Y XS Y Y)<|Rx Y (Zh (ov Y) (ov Y) (ZC XS Y) Y Y Y (Nat.le_of_ble_eq_true Y) (Zb Y) Y)<|Za<|?_
   obtain rfl := rt h
   exact Zp<|Za2 [some 2, some 3, some 4] Y (.cons (.agg Y Y Y Y XS Y Y) .nil) (.cons Y (roO Xi)<|.cons Y (roM D3)<|.cons Y (roM D4) .nil) Y Y<|Zd2<|rlc (.dat Y)<|rlc (.dat Y)<|rlc (.own _ Y)<|rlc (.own _ Y)<|rlc (.own _ Y) rln
theorem Zej {l : List api_Memory} {r : (List api_Memory)} (h : XF l = some r) :
 GSpec Tryz.prog gl0 63 [.sl 26 (List.map R26 l)] [] (.own 0 r.length) [some ⟨26, List.map O26 r⟩] := by
 unfold XF at h
 replace h := QF h
 refine QO (by kernel_rfl) Tryz.func63 Y Y<|?_
 intro w0 A W φ0
 refine Tr<|Ra Y<|Za<|K1 0 Y<|Tr<|Ra Y<|Za<|I1 (fun out=>⟨[(3, .own 0 out.length)], [some ⟨26, List.map O26 out⟩]⟩) h (fun h=>?_) fun out h=>?_
 ·
  refine Tr<|Rm Y<|Rl tZ_26 Zbh Y<|Rm Y<|Za<|Zg<|?_
  obtain ⟨r1, hl1, ho1⟩ := Xj h
  refine L2 (fun out2 i=>⟨[(3, .own 0 out2.length), (6, .sl 26 (List.map R26 l)), (7, .int .i64 (l.length : Int)), (8, .int .i64 i)], [some ⟨26, List.map O26 out2⟩]⟩) hl1 (ES [none]) fun n1 out2 i h=>?_
  unfold Xs at h
  refine Tr<|R2 ZY Y<|Za<|Zj<|If h Y (fun h=>?_) fun h=>?_
  ·
   exact Zi<|Zj<|Zg<|K4 3 6 7 8 Y<|Tr<|bE h fun x h_x h=>Rq Y (Ql (ov Y) (ov Y) Zbh h_x)<|Rq Y (Q6 (ov Y) XS Y Y)<|Rx Y (Qf (row := [_, _, _, _, _]) 1 Y Zc4 Y tZ_26)<|Rx Y (Zh (ov Y) (ov Y) (ZC XS Y) Y Y Y (Nat.le_of_ble_eq_true Y) (Zb Y) Y)<|Za<|K5 3 5 6 7 8 Y<|QP [some ⟨26, List.map O26 out2⟩, some ⟨26, [[.int .i64 x.Slots, .int .i64 x.Limit, .sl 49 (List.map R49 x.Sectors), .sl 3 (List.map R3 x.Wear), .sl 4 (List.map R4 x.Bad)]]⟩] Y<|Zt<|Rm Y<|Rq Y (QB (ov Y) Y Y Y XS Y Y)<|bE h fun y h_y h=>Rx Y (ZH [] (Zc8 h_y) (.cons (ov Y) (Zd2<|rld Y) .nil) .nil Y (.keep Y Y<|.keep Y Y<|.lent 0 (.inr ⟨Nat.le_of_ble_eq_true Y, Y⟩) Y (roO Xi)<|.lent 1 (.inr ⟨Nat.le_of_ble_eq_true Y, Y⟩) Y (roM D3)<|.lent 2 (.inr ⟨Nat.le_of_ble_eq_true Y, Y⟩) Y (roM D4) .nil) Y Y<|Zd2<|rlc (.dat Y)<|rlc (.dat Y)<|rlc (.own _<|.inr ⟨Nat.le_of_ble_eq_true Y, Y⟩)<|rlc (.own _<|.inr ⟨Nat.le_of_ble_eq_true Y, Y⟩)<|rlc (.own _<|.inr ⟨Nat.le_of_ble_eq_true Y, Y⟩) rln)<|Rx Y (Qn (r := 5) Y Zbh (.cons (cva<|ov Y) Y .nil) Y Y)<|bE h fun l2 h_l2 h=>Rx Y (ZA (f := O26) (ov Y) (ZV (o := ⟨26, [[.int .i64 y.Slots, .int .i64 y.Limit, .own 2 y.Sectors.length, .own 3 y.Wear.length, .own 4 y.Bad.length]]⟩) (ov Y) Y Y tZ_26) Zbh Y Y (Zb Y) Y h_l2)<|Ra Y<|ZeS [some ⟨26, List.set (List.map O26 l2) out2.length [.int .i64 y.Slots, .int .i64 y.Limit, .own 2 y.Sectors.length, .own 3 y.Wear.length, .own 4 y.Bad.length]⟩, some ⟨26, [[.int .i64 x.Slots, .int .i64 x.Limit, .sl 49 (List.map R49 x.Sectors), .sl 3 (List.map R3 x.Wear), .sl 4 (List.map R4 x.Bad)]]⟩, some ⟨49, List.map O49 y.Sectors⟩, some ⟨3, List.map R3 y.Wear⟩, some ⟨4, List.map R4 y.Bad⟩, some ⟨26, [[.int .i64 y.Slots, .int .i64 y.Limit, .own 2 y.Sectors.length, .own 3 y.Wear.length, .own 4 y.Bad.length]]⟩] Y<|Xf (Ent.absorbH (r := 0) (j := 2) (q := 2) Y (Zk h_l2) Y Y (List.length_map ..) Y)<|Xf (Ent.absorbH (r := 0) (j := 3) (q := 3) Y (Zk h_l2) Y Y (List.length_map ..) Y)<|Xf (Ent.absorbH (r := 0) (j := 4) (q := 4) Y (Zk h_l2) Y Y (List.length_map ..) Y)<|Xf (Ent.closeS (r := 0) Y (Zk h_l2) Y)<|Za<|K4 3 6 7 8 Y<|QP [some ⟨26, List.map O26 l2⟩, some ⟨26, [[.int .i64 x.Slots, .int .i64 x.Limit, .sl 49 (List.map R49 x.Sectors), .sl 3 (List.map R3 x.Wear), .sl 4 (List.map R4 x.Bad)]]⟩, none, none, none, some ⟨26, [[.int .i64 y.Slots, .int .i64 y.Limit, .own 2 y.Sectors.length, .own 3 y.Wear.length, .own 4 y.Bad.length]]⟩] Y<|Zt<|R2 ZX Y<|Rm Y<|Za<|⟨_, h, ES [some 0] (hhp := .cons Y (roO QR) .nil)⟩
  ·
   refine ZS<|?_
   replace h := lx h ▸ ho1
   exact ⟨_, h, ES [some 0] (hhp := .cons Y (roO QR) .nil)⟩
 ·
  refine Tr<|Rm Y<|Ra Y<|Za<|?_
  obtain rfl := rt h
  exact Zp<|Za2 [some 0] Y (.cons (.tmp Y) .nil) (.cons Y (roO QR) .nil) Y Y<|.own _ Y
theorem ZfY {sequence : Int} {r : (List Int)} (h : J9 sequence = some r) :
 CSpec Tryz.prog gl0 87 [.int .i64 sequence] (.sl 5 (List.map R5 r)) := by
 unfold J9 at h
 replace h := QF h
 refine So Tryz.func87 Y fun w0 A=>Tr<|Ra Y<|Za<|K1 0 Y<|Tr<|Rx Y (Ze4 (r := 0) (xs := ([79, 66] : List Int)) (f := R5) Y QU (.cons (cvs (ov Y)<|Zm Y) Y (.cons (.b Y) .nil)<|.cons (cvs (ov Y)<|Zm Y) Y (.cons (.b Y) .nil) .nil) Y Y Y)<|Ra Y<|Za<|I1 (fun out=>⟨[(3, .own 0 out.length)], [some ⟨5, List.map R5 out⟩]⟩) h (fun h=>?_) fun out h=>?_
 ·
  refine K2 0 3 Y<|Tr<|Ra Y<|Za<|Zg<|?_
  obtain ⟨r1, hl1, ho1⟩ := Xj h
  refine L2 (fun out2 shift=>⟨[(0, .int .i64 sequence), (3, .own 0 out2.length), (4, .int .i64 shift)], [some ⟨5, List.map R5 out2⟩]⟩) hl1 (ES [some 0]) fun n1 out2 shift h=>?_
  unfold Xo at h
  refine Zj<|Tr<|Rm Y<|R2 Zjx Y<|Za<|K4 0 3 4 9 Y<|If h Y (fun h=>?_) fun h=>?_
  ·
   exact Zi<|Zj<|Zg<|K3 0 3 4 Y<|Zt<|Rm Y<|Rm Y<|Rm Y<|bE h fun q h_q h=>Rq Y (Za5 (ov Y) (ov Y) h_q)<|Rq Y (QA (ov Y) tI3 tI5 Y)<|R_q (.sl 5<|List.map R5 ([(u8 q)] : List Int)) Y (Zal QU (.cons (cvs (ov Y)<|Zm Y) Y (.cons (.b Y) .nil) .nil) Y Y)<|bE h fun l h_l h=>Rx Y (XT (ov Y) (QY (ov Y) tZ_5) QU Y Y Y (fun _=>Zb Y) Y h_l)<|Ra Y<|Za<|K3 0 3 4 Y<|Zt<|Rm Y<|R2 Zcr Y<|Ra Y<|Za<|⟨_, h, ES [some 0]⟩
  ·
   refine ZS<|?_
   replace h := lx h ▸ ho1
   exact ⟨_, h, ES [some 0]⟩
 ·
  refine I1 (fun out3=>⟨[(3, .own 0 out3.length)], [some ⟨5, List.map R5 out3⟩]⟩) h (fun h=>?_) fun out3 h=>?_
  ·
   refine Tr<|Rm Y<|bE h fun u h_u h=>Rq Y (Zpc (ov Y) Y Y QU (oi<|ov Y) (oi<|ov Y) h_u)<|Rq Y (Zn9 (ov Y) Y (List.length_map ..) QU)<|Rm Y<|Za<|Zg<|?_
   obtain ⟨r2, hl2, ho2⟩ := Xj h
   refine ZoB (τ := Option (List Int)) _ (fun b s=>Option.elim b (t2 (fun out4 i=>(⟨[(3, .own 0 out4.length), (20, .osl 0 out4.length (Int.toNat 2) (Int.toNat (6 - 2))), (21, .int .i64 ((Int.toNat (6 - 2) : Nat) : Int)), (22, .int .i64 i)], [some ⟨5, List.map R5 out4⟩]⟩ : St)) s) fun old2=>t2 (fun out4 i=>(⟨[(3, .own 1 out4.length), (20, .osl 0 old2.length (Int.toNat 2) (Int.toNat (6 - 2))), (21, .int .i64 ((Int.toNat (6 - 2) : Nat) : Int)), (22, .int .i64 i)], [some ⟨5, List.map R5 old2⟩, some ⟨5, List.map R5 out4⟩]⟩ : St)) s) (fun b s => ∃ tl, Option.getD b s.1 = out ++ tl) none _ hl2 Zoa (Ent.sel [some 0] (sr 3 Y (.own _ Y)<|sr 20 Y (.osl _ _ _ Y)<|sd 21 Y Y<|sd 22 Y Y sn) (.cons Y (roM D5) .nil) Y Y) fun b2 n2 s2 hC h=>?_
   obtain ⟨out4, i⟩ := s2
   replace h := t2i h
   unfold Xm at h
   rcases b2 with _ | old2
   ·
    replace hC : ∃ tl, out4 = out ++ tl := hC
    show T _ _ ⟨[(3, .own 0 out4.length), (20, .osl 0 out4.length (Int.toNat 2) (Int.toNat (6 - 2))), (21, .int .i64 ((Int.toNat (6 - 2) : Nat) : Int)), (22, .int .i64 i)], [some ⟨5, List.map R5 out4⟩]⟩ _
    refine Tr<|R2 ZY Y<|Za<|Zj<|If h Y (fun h=>?_) fun h=>?_
    ·
     refine Zi<|Zj<|Zg<|K4 3 20 21 22 Y<|Tr<|bE h fun u2 h_u2 h=>bE h fun x2 h_x2 h=>?_
     have h_x2P := Zml hC h_x2
     refine Rq Y (ZnB (ov Y) (ov Y) QU Y Y (Zg7 h_u).1 h_u2 h_x2P)<|Rq Y (QG (ov Y) Y Y h_x2P tS5 Y)<|Ra Y<|Za<|K5 3 6 20 21 22 Y<|Zt<|Rm Y<|Rm Y<|R1 ZlR Y<|R_q (.sl 5<|List.map R5 ([(Zcd .u8 255 x2)] : List Int)) Y (Zal QU (.cons (cvs (ov Y)<|Zm Y) Y (.cons (.b Y) .nil) .nil) Y Y)<|bE h fun l2 h_l2 h=>Zom (f := R5) (tp := 20) (ys := ([(Zcd .u8 255 x2)] : List Int)) Y (ov Y) (QY (ov Y) tZ_5) QU Y Y Y (fun _=>Zb Y) Y (fun _=>nsR Y) h_l2 Y ?_ ?_
     ·
      exact Ra Y<|Za<|K4 3 20 21 22 Y<|Zt<|R2 ZX Y<|Rm Y<|Za<|⟨none, (l2, (i64 (i + 1))), ZoQ hC h_l2, h, Ent.sel [some 0] (sr 3 Y (.own _ Y) <| sr 20 Y (.osl _ _ _ Y) <| sd 21 Y Y <| sd 22 Y Y <| sn) (.cons Y (roM D5) <| .nil) Y Y⟩
     ·
      exact Ra Y<|Za<|K4 3 20 21 22 Y<|Zt<|R2 ZX Y<|Rm Y<|Za<|⟨some out4, (l2, (i64 (i + 1))), hC, h, Ent.sel [some 0, some 1] (sr 3 Y (.own _ Y) <| sr 20 Y (.osl _ _ _ Y) <| sd 21 Y Y <| sd 22 Y Y <| sn) (.cons Y (roM D5) <| .cons Y (roM D5) <| .nil) Y Y⟩
    ·
     refine ZS<|?_
     replace h := lx h ▸ ho2
     exact ⟨_, h, ES [some 0]⟩
   ·
    replace hC : ∃ tl, old2 = out ++ tl := hC
    show T _ _ ⟨[(3, .own 1 out4.length), (20, .osl 0 old2.length (Int.toNat 2) (Int.toNat (6 - 2))), (21, .int .i64 ((Int.toNat (6 - 2) : Nat) : Int)), (22, .int .i64 i)], [some ⟨5, List.map R5 old2⟩, some ⟨5, List.map R5 out4⟩]⟩ _
    refine Tr<|R2 ZY Y<|Za<|Zj<|If h Y (fun h=>?_) fun h=>?_
    ·
     refine Zi<|Zj<|Zg<|K4 3 20 21 22 Y<|Tr<|bE h fun u2 h_u2 h=>bE h fun x2 h_x2 h=>?_
     have h_x2P := Zml hC h_x2
     exact Rq Y (ZnB (ov Y) (ov Y) QU Y Y (Zg7 h_u).1 h_u2 h_x2P)<|Rq Y (QG (ov Y) Y Y h_x2P tS5 Y)<|Ra Y<|Za<|K5 3 6 20 21 22 Y<|Zt<|Rm Y<|Rm Y<|R1 ZlR Y<|R_q (.sl 5<|List.map R5 ([(Zcd .u8 255 x2)] : List Int)) Y (Zal QU (.cons (cvs (ov Y)<|Zm Y) Y (.cons (.b Y) .nil) .nil) Y Y)<|bE h fun l2 h_l2 h=>Rx Y (XT (ov Y) (QY (ov Y) tZ_5) QU Y Y Y (fun _=>Zb Y) Y h_l2)<|Ra Y<|Za<|K4 3 20 21 22 Y<|Zt<|R2 ZX Y<|Rm Y<|Za<|⟨some old2, (l2, (i64 (i + 1))), hC, h, Ent.sel [some 0, some 1] (sr 3 Y (.own _ Y) <| sr 20 Y (.osl _ _ _ Y) <| sd 21 Y Y <| sd 22 Y Y <| sn) (.cons Y (roM D5) <| .cons Y (roM D5) <| .nil) Y Y⟩
    ·
     refine ZS<|?_
     replace h := lx h ▸ ho2
     exact ⟨_, h, ES [some 1]⟩
  ·
   refine Tr<|Rm Y<|Ra Y<|Za<|?_
   obtain rfl := rt h
   exact Zp (Z5 Y (.one<|.tmp Y<|View.ownM Y Y D5))
theorem Zd8 {s1 : List Int} {s2 : List Int} {r : Bool} (h : QC s1 s2 = some r) :
 CSpec Tryz.prog gl0 86 [.sl 5 (List.map R5 s1), .sl 5 (List.map R5 s2)] (.bool r) := by
 unfold QC at h
 replace h := QF h
 refine So Tryz.func86 Y fun w0 A=>Tr<|Ra Y<|Za<|Zj<|K2 0 1 Y<|Tr<|Rm Y<|Rl tZ_5 QU Y<|Rm Y<|Rl tZ_5 QU Y<|R2 Jc Y<|Za<|K3 0 1 10 Y<|If h Y (fun h=>?_) fun h=>?_
 ·
  refine K0<|Tr<|Ra Y<|Za<|?_
  obtain rfl := rt h
  exact Zp (Z5 Y (.one<|rb Y))
 ·
  refine Zi<|J0 (fun j => (.inr j)) ⟨[], []⟩ h (fun h=>?_) fun h=>?_
  ·
   refine K2 0 1 Y<|Tr<|Rm Y<|Rl tZ_5 QU Y<|Rm Y<|Za<|Zg<|?_
   obtain ⟨r1, hl1, ho1⟩ := Xj h
   refine L1 (fun i=>⟨[(0, .sl 5 (List.map R5 s1)), (1, .sl 5 (List.map R5 s2)), (12, .int .i64 (s1.length : Int)), (13, .int .i64 i)], []⟩) hl1 (ES []) fun n1 i h=>?_
   unfold Qy at h
   refine Tr<|R2 ZY Y<|Za<|Zj<|If h Y (fun h=>?_) fun h=>?_
   ·
    refine Zi<|Zj<|Zg<|K4 0 1 12 13 Y<|Tr<|Rm Y<|Ra Y<|Za<|Zj<|K5 0 1 5 12 13 Y<|QH (cw := md0) (by kernel_rfl)<|D1 0 Zc Y<|D1 1 Zc Y<|bE h fun x h_x h=>Dq 2 Y (Ql (ov Y) (ov Y) QU h_x)<|Dq 3 Y (Ze (ov Y) tS5 Y)<|D1 4 Zc Y<|D1 5 Zc Y<|bE h fun x2 h_x2 h=>Dq 6 Y (Ql (ov Y) (ov Y) QU h_x2)<|Dq 7 Y (Ze (ov Y) tS5 Y)<|D2 8 Jc Y<|Dd<|K5 0 1 12 13 24 Y<|If h Y (fun h=>?_) fun h=>?_
    ·
     refine K0<|Tr<|Ra Y<|Za<|?_
     replace h := lx h ▸ ho1
     obtain rfl := rt h
     exact Zp (Z5 Y (.one<|rb Y))
    ·
     exact Zi<|K4 0 1 12 13 Y<|Zt<|R2 ZX Y<|Rm Y<|Za<|⟨_, h, ES []⟩
   ·
    refine ZS<|?_
    replace h := lx h ▸ ho1
    exact ⟨(), h, ES []⟩
  ·
   replace h := elr h
   replace h := t0i h
   refine Tr<|Ra Y<|Za<|?_
   obtain rfl := rt h
   exact Zp (Z5 Y (.one<|rb Y))
theorem Zb4 {s : List Int} {r : Int × Bool × Bool} (h : JY s = some r) :
 CSpec Tryz.prog gl0 34 [.sl 5 (List.map R5 s)] (.tuple [.int .i64 r.1, .bool r.2.1, .bool r.2.2]) := by
 unfold JY at h
 replace h := QF h
 refine So Tryz.func34 Y fun w0 A=>Tr<|Ra Y<|Ra Y<|Ra Y<|Za<|Zj<|K1 0 Y<|Tr<|Rm Y<|Rl tZ_5 QU Y<|R2 ZY Y<|Za<|K2 0 9 Y<|If h Y (fun h=>?_) fun h=>?_
 ·
  refine K0<|Tr<|Ra Y<|Ra Y<|Ra Y<|Za<|?_
  obtain rfl := rt h
  exact Zp (Z5 Y (.three (rb Y) (rb Y)<|rb Y))
 ·
  refine Zi<|K1 0 Y<|Tr<|Rm Y<|bE h fun l h_l h=>Rq Y (ZiT (ov Y) QU on (oi<|ov Y) h_l)<|bE h fun v h_v h=>Rq Y (ZlH (f := C5) (ov Y) Zjd tZ_5 Y h_v)<|Ra Y<|Za<|Zj<|K1 5 Y<|QH (cw := md0) (by kernel_rfl)<|D1 0 Zc Y<|D1 1 ZQ Y<|bE h fun x h_x h=>Dq 2 Y (Xx (ov Y) (ov Y) Zjd h_x)<|Dq 3 Y (Ze (ov Y) tS5<|Q0<|Ji (o := 0) (o' := ((Int.toNat 2) * 1)) (Zz arL)<|Jb h_x)<|Dq 4 Y (QA (ov Y) tI5 tI3 Y)<|bE h fun q h_q h=>Dq 5 Y (Ze0 (ov Y) (ov Y) h_q)<|D1 6 Zc Y<|D1 7 ZQ Y<|bE h fun x2 h_x2 h=>Dq 8 Y (Xx (ov Y) (ov Y) Zjd h_x2)<|Dq 9 Y (Ze (ov Y) tS5<|Q0<|Ji (o := 0) (o' := ((Int.toNat 3) * 1)) (Zz arL)<|Jb h_x2)<|Dq 10 Y (QA (ov Y) tI5 tI3 Y)<|bE h fun q2 h_q2 h=>Dq 11 Y (Ze0 (ov Y) (ov Y) h_q2)<|D2 12 Zgu Y<|D1 13 Zc Y<|D1 14 ZQ Y<|bE h fun x3 h_x3 h=>Dq 15 Y (Xx (ov Y) (ov Y) Zjd h_x3)<|Dq 16 Y (Ze (ov Y) tS5<|Q0<|Ji (o := 0) (o' := ((Int.toNat 4) * 1)) (Zz arL)<|Jb h_x3)<|Dq 17 Y (QA (ov Y) tI5 tI3 Y)<|bE h fun q3 h_q3 h=>Dq 18 Y (Ze0 (ov Y) (ov Y) h_q3)<|D2 19 Zgu Y<|D1 20 Zc Y<|D1 21 ZQ Y<|bE h fun x4 h_x4 h=>Dq 22 Y (Xx (ov Y) (ov Y) Zjd h_x4)<|Dq 23 Y (Ze (ov Y) tS5<|Q0<|Ji (o := 0) (o' := ((Int.toNat 5) * 1)) (Zz arL)<|Jb h_x4)<|Dq 24 Y (QA (ov Y) tI5 tI3 Y)<|D2 25 Zgu Y<|D1 26 Q1 Y<|Dd<|Zj<|Zj<|K2 5 6 Y<|QH (cw := md0) (by kernel_rfl)<|D1 0 Zc Y<|bE h fun y h_y h=>Dq 1 Y (Zw (QS h_y)<|.cons (ov Y) (.b Y)<|.cons (ov Y) (.b Y)<|.cons (ov Y) (.b Y) .nil)<|D1 2 J7 Y<|D1 3 Zc Y<|Dq 4 Y (.guarded ((!y) == false) Y Y Y Y fun h => Zc<|ov Y)<|Dq 5 Y (.guarded ((!y) == false) Y Y Y Y fun h => ZQ<|ow Y h)<|bE h fun l2 h_l2 h=>Dq 6 Y (.guarded ((!y) == false) Y Y Y Y fun h => ZlU (f := C5) (ow Y h) Zjd tZ_5 (Zz arL) Y on (oi<|ov Y)<|gdT h_l2 h)<|Dq 7 Y (.guarded ((!y) == false) Y Y Y Y fun h => Zc<|ov Y)<|bE h fun y2 h_y2 h=>Dq 8 Y (.guarded ((!y) == false) Y Y Y Y fun h => Zw (ZfY<|gdT h_y2 h)<|.cons (ow Y h) (.b Y) .nil)<|bE h fun y3 h_y3 h=>Dq 9 Y (.guarded ((!y) == false) Y Y Y Y fun h => Zw (Zd8<|gdT h_y3 h)<|.cons (ow Y h) (.b Y)<|.cons (ow Y h) (.b Y) .nil)<|Dq 10 Y (.guarded ((!y) == false) Y Y Y Y fun h => J7<|ow Y h)<|Dq 11 Y (ZhW (ov Y) fun hp=>ow Y<|gF hp)<|Dd<|K3 5 6 50 Y<|If h Y (fun h=>?_) fun h=>?_
  ·
   refine K0<|Tr<|Ra Y<|Ra Y<|Ra Y<|Za<|?_
   obtain rfl := rt h
   exact Zp (Z5 Y (.three (rb Y) (rb Y)<|rb Y))
  ·
   refine Zi<|Zj<|K2 5 6 Y<|QH (cw := md0) (by kernel_rfl)<|D1 0 Zc Y<|D1 1 Zc Y<|D1 2 ZQ Y<|bE h fun x5 h_x5 h=>Dq 3 Y (Xx (ov Y) (ov Y) Zjd h_x5)<|Dq 4 Y (Ze (ov Y) tS5<|Q0<|Ji (o := 0) (o' := ((Int.toNat 10) * 1)) (Zz arL)<|Jb h_x5)<|D2 5 Jc Y<|D1 6 Q1 Y<|D1 7 Q1 Y<|D1 8 Q1 Y<|Dd<|?_
   obtain rfl := rt h
   exact Zp (Z5 Y (.three (rb Y) (rb Y)<|rb Y))
theorem Jk {data : List Int} {a : Int} {b : Int} {cmp : Int → Int → Option Int} {r : (List Int)} {cmp_f : FuncId} {cmp_c : List AV} (cmp_d : cmp_c.all datB = true) (cmp_h : ∀ (z0 : Int) (z1 : Int) z, cmp z0 z1 = some z → CSpec Tryz.prog gl0 cmp_f ([.int .i64 z0, .int .i64 z1] ++ cmp_c) (.int .i64 z)) (h : Zy data a b cmp = some r) :
 GSpec Tryz.prog gl0 155 [.own 0 data.length, .int .i64 a, .int .i64 b, .fn cmp_f cmp_c] [some ⟨3, List.map R3 data⟩] (.tuple []) [some ⟨3, List.map R3 r⟩] := by
 unfold Zy at h
 replace h := QF h
 refine QO (by kernel_rfl) Tryz.func155 Y Y<|?_
 intro w0 A W φ0
 refine Tr<|Rm Y<|R2 ZX Y<|Ra Y<|Za<|Zg<|?_
 obtain ⟨r1, hl1, ho1⟩ := Xj h
 refine L2 (fun o i=>⟨[(0, .own 0 o.length), (1, .int .i64 a), (2, .int .i64 b), (3, .fn cmp_f cmp_c), (8, .int .i64 i)], [some ⟨3, List.map R3 o⟩]⟩) hl1 (ES [some 0]<|sr 0 Y (.own _ Y)<|sd 1 Y Y<|sd 2 Y Y<|sr 3 Y (rFn<|rld cmp_d)<|sd 8 Y Y sn) fun n1 o i h=>?_
 unfold Zs at h
 refine Zj<|Tr<|Rm Y<|Rm Y<|R2 ZY Y<|Za<|K6 0 1 2 3 8 14 Y<|If h Y (fun h=>?_) fun h=>?_
 ·
  refine Zi<|I1 (fun o2=>⟨[(0, .own 0 o2.length), (1, .int .i64 a), (2, .int .i64 b), (3, .fn cmp_f cmp_c), (8, .int .i64 i)], [some ⟨3, List.map R3 o2⟩]⟩) h (fun h=>?_) fun o2 h=>?_
  ·
   refine Zg<|K5 0 1 2 3 8 Y<|Tr<|Rm Y<|Ra Y<|Za<|Zg<|?_
   obtain ⟨r2, hl2, ho2⟩ := Xj h
   refine L2 (fun o3 j=>⟨[(0, .own 0 o3.length), (1, .int .i64 a), (2, .int .i64 b), (3, .fn cmp_f cmp_c), (8, .int .i64 i), (9, .int .i64 j)], [some ⟨3, List.map R3 o3⟩]⟩) hl2 (ES [some 0]<|sr 0 Y (.own _ Y)<|sd 1 Y Y<|sd 2 Y Y<|sr 3 Y (rFn<|rld cmp_d)<|sd 8 Y Y<|sd 9 Y Y sn) fun n2 o3 j h=>?_
   unfold Zx at h
   refine Zj<|Zj<|QH (cw := md0) (by kernel_rfl)<|D1 0 Zc Y<|D1 1 Zc Y<|D2 2 Zde Y<|D1 3 Zc Y<|Dq 4 Y (.guarded ((decide (a < j)) == true) Y Y Y Y fun h => Zc<|ov Y)<|Dq 5 Y (.guarded ((decide (a < j)) == true) Y Y Y Y fun h => Zc<|ov Y)<|Dq 6 Y (.guarded ((decide (a < j)) == true) Y Y Y Y fun h => Zc<|ov Y)<|bE h fun x h_x h=>Dq 7 Y (.guarded ((decide (a < j)) == true) Y Y Y Y fun h => QI (ow Y h) (ow Y h) Q3 Y Y<|gdT h_x h)<|Dq 8 Y (.guarded ((decide (a < j)) == true) Y Y Y Y fun h => QG (ow Y h) Y Y (gdT h_x h) tS3 Y)<|Dq 9 Y (.guarded ((decide (a < j)) == true) Y Y Y Y fun h => Zc<|ov Y)<|Dq 10 Y (.guarded ((decide (a < j)) == true) Y Y Y Y fun h => Zc<|ov Y)<|Dq 11 Y (.guarded ((decide (a < j)) == true) Y Y Y Y fun h => Zmh (ow Y h) (ov Y) Y)<|bE h fun x2 h_x2 h=>Dq 12 Y (.guarded ((decide (a < j)) == true) Y Y Y Y fun h => QI (ow Y h) (ow Y h) Q3 Y Y<|gdT h_x2 h)<|Dq 13 Y (.guarded ((decide (a < j)) == true) Y Y Y Y fun h => QG (ow Y h) Y Y (gdT h_x2 h) tS3 Y)<|bE h fun y h_y h=>Dq 14 Y (.guarded ((decide (a < j)) == true) Y Y Y Y fun h => Zdw (ow Y h) cmp_d (cmp_h _ _ _<|gdT h_y h)<|.cons (ow Y h) (.b Y)<|.cons (ow Y h) (.b Y) .nil)<|Dq 15 Y (.guarded ((decide (a < j)) == true) Y Y Y Y fun h => ZY (ow Y h)<|ov Y)<|Dq 16 Y (ZaZ (ov Y) fun hp=>ow Y<|gT hp)<|Dd<|K7 0 1 2 3 8 9 34 Y<|If h Y (fun h=>?_) fun h=>?_
   ·
    exact Zi<|Zj<|Zg<|K6 0 1 2 3 8 9 Y<|QH (cw := md0) (by kernel_rfl)<|D1 0 Zc Y<|D1 1 Zc Y<|D1 5 Zc Y<|D1 6 Zc Y<|D2 7 Zcr Y<|bE h fun x3 h_x3 h=>Dq 8 Y (QI (ov Y) (ov Y) Q3 Y Y h_x3)<|Dq 9 Y (QG (ov Y) Y Y h_x3 tS3 Y)<|D1 10 Zc Y<|D1 11 Zc Y<|bE h fun x4 h_x4 h=>Dq 12 Y (QI (ov Y) (ov Y) Q3 Y Y h_x4)<|Dq 13 Y (QG (ov Y) Y Y h_x4 tS3 Y)<|bE h fun x5 h_x5 h=>Dq 14 Y (QI (ov Y) (ov Y) Q3 Y Y h_x5)<|Z9 2 _ Y (by kernel_rfl) Y Y (fun hp'=>Zc<|ov Y)<|Z9 3 _ Y (by kernel_rfl) Y Y (fun hp'=>Zc<|ov Y)<|Z9 4 _ Y (by kernel_rfl) Y Y (fun hp'=>Zmh (ov Y) (ov Y) Y)<|Do 15 Y (Jh (u' := x3) (ov Y) (ov Y) (Zd tS3) Y Y h_x5 Y (Zb Y) Y)<|bE h fun x6 h_x6 h=>Dq 16 Y (QI (ov Y) (ov Y) Q3 Y ((List.length_set ..).trans Y) h_x6)<|Do 17 Y (Jh (u' := x4) (ov Y) (ov Y) (Zd tS3) Y ((List.length_set ..).trans Y) h_x6 Y (Zb Y) Y)<|Dd<|K6 0 1 2 3 8 9 Y<|Zt<|Rm Y<|R2 Zcr Y<|Ra Y<|Za<|⟨_, h, ES [some 0]<|sr 0 Y (ZdX (Eq.symm<|(List.length_set ..).trans<|(List.length_set ..).trans Y) Y)<|sd 1 Y Y<|sd 2 Y Y<|sr 3 Y (rFn<|rld cmp_d)<|sd 8 Y Y<|sd 9 Y Y sn⟩
   ·
    refine ZS<|?_
    replace h := lx h ▸ ho2
    exact ⟨_, h, ES [some 0]<|sr 0 Y (.own _ Y)<|sd 1 Y Y<|sd 2 Y Y<|sr 3 Y (rFn<|rld cmp_d)<|sd 8 Y Y sn⟩
  ·
   exact Zt<|Rm Y<|R2 ZX Y<|Ra Y<|Za<|⟨_, h, ES [some 0]<|sr 0 Y (.own _ Y)<|sd 1 Y Y<|sd 2 Y Y<|sr 3 Y (rFn<|rld cmp_d)<|sd 8 Y Y sn⟩
 ·
  refine ZS<|?_
  replace h := lx h ▸ ho1
  obtain rfl := rt h
  exact Zgt [some 0] Y .nil (.cons Y (roM D3) .nil) Y Y<|Xw rln
theorem XA {data : List Int} {a : Int} {b : Int} {n : Int} {cmp : Int → Int → Option Int} {r : (List Int)} {cmp_f : FuncId} {cmp_c : List AV} (cmp_d : cmp_c.all datB = true) (cmp_h : ∀ (z0 : Int) (z1 : Int) z, cmp z0 z1 = some z → CSpec Tryz.prog gl0 cmp_f ([.int .i64 z0, .int .i64 z1] ++ cmp_c) (.int .i64 z)) (h : ZJ data a b n cmp = some r) :
 GSpec Tryz.prog gl0 166 [.own 0 data.length, .int .i64 a, .int .i64 b, .int .i64 n, .fn cmp_f cmp_c] [some ⟨3, List.map R3 data⟩] (.tuple []) [some ⟨3, List.map R3 r⟩] := by
 unfold ZJ at h
 replace h := QF h
 refine QO (by kernel_rfl) Tryz.func166 Y Y<|?_
 intro w0 A W φ0
 refine K4 0 1 2 3 Y<|Tr<|Ra Y<|Za<|Zg<|?_
 obtain ⟨r1, hl1, ho1⟩ := Xj h
 refine L2 (fun o i=>⟨[(0, .own 0 o.length), (1, .int .i64 a), (2, .int .i64 b), (3, .int .i64 n), (10, .int .i64 i)], [some ⟨3, List.map R3 o⟩]⟩) hl1 (ES [some 0]) fun n1 o i h=>?_
 unfold ZW at h
 refine Zj<|Tr<|Rm Y<|Rm Y<|R2 ZY Y<|Za<|K6 0 1 2 3 10 13 Y<|If h Y (fun h=>?_) fun h=>?_
 ·
  exact Zi<|Zj<|Zg<|K5 0 1 2 3 10 Y<|QH (cw := md0) (by kernel_rfl)<|D1 0 Zc Y<|D1 1 Zc Y<|D1 2 Zc Y<|D2 3 ZX Y<|D1 8 Zc Y<|D1 9 Zc Y<|D1 10 Zc Y<|D2 11 ZX Y<|bE h fun x h_x h=>Dq 12 Y (QI (ov Y) (ov Y) Q3 Y Y h_x)<|Dq 13 Y (QG (ov Y) Y Y h_x tS3 Y)<|D1 14 Zc Y<|D1 15 Zc Y<|D1 16 Zc Y<|D2 17 ZX Y<|bE h fun x2 h_x2 h=>Dq 18 Y (QI (ov Y) (ov Y) Q3 Y Y h_x2)<|Dq 19 Y (QG (ov Y) Y Y h_x2 tS3 Y)<|bE h fun x3 h_x3 h=>Dq 20 Y (QI (ov Y) (ov Y) Q3 Y Y h_x3)<|Z9 4 _ Y (by kernel_rfl) Y Y (fun hp'=>Zc<|ov Y)<|Z9 5 _ Y (by kernel_rfl) Y Y (fun hp'=>Zc<|ov Y)<|Z9 6 _ Y (by kernel_rfl) Y Y (fun hp'=>Zc<|ov Y)<|Z9 7 _ Y (by kernel_rfl) Y Y (fun hp'=>ZjW (ov Y) (ov Y) Y)<|Do 21 Y (Jh (u' := x) (ov Y) (ov Y) (Zd tS3) Y Y h_x3 Y (Zb Y) Y)<|bE h fun x4 h_x4 h=>Dq 22 Y (QI (ov Y) (ov Y) Q3 Y ((List.length_set ..).trans Y) h_x4)<|Do 23 Y (Jh (u' := x2) (ov Y) (ov Y) (Zd tS3) Y ((List.length_set ..).trans Y) h_x4 Y (Zb Y) Y)<|Dd<|K5 0 1 2 3 10 Y<|Zt<|Rm Y<|R2 ZX Y<|Ra Y<|Za<|⟨_, h, ES [some 0]<|sr 0 Y (ZdX (Eq.symm<|(List.length_set ..).trans<|(List.length_set ..).trans Y) Y)<|sd 1 Y Y<|sd 2 Y Y<|sd 3 Y Y<|sd 10 Y Y sn⟩
 ·
  refine ZS<|?_
  replace h := lx h ▸ ho1
  obtain rfl := rt h
  exact Zgt [some 0] Y .nil (.cons Y (roM D3) .nil) Y Y<|Xw rln
theorem Zdv {data : List Int} {a : Int} {m : Int} {b : Int} {cmp : Int → Int → Option Int} {r : (List Int)} {cmp_f : FuncId} {cmp_c : List AV} (cmp_d : cmp_c.all datB = true) (cmp_h : ∀ (z0 : Int) (z1 : Int) z, cmp z0 z1 = some z → CSpec Tryz.prog gl0 cmp_f ([.int .i64 z0, .int .i64 z1] ++ cmp_c) (.int .i64 z)) (h : Qd data a m b cmp = some r) :
 GSpec Tryz.prog gl0 164 [.own 0 data.length, .int .i64 a, .int .i64 m, .int .i64 b, .fn cmp_f cmp_c] [some ⟨3, List.map R3 data⟩] (.tuple []) [some ⟨3, List.map R3 r⟩] := by
 unfold Qd at h
 replace h := QF h
 refine QO (by kernel_rfl) Tryz.func164 Y Y<|?_
 intro w0 A W φ0
 refine Tr<|Rm Y<|Rm Y<|R2 Zcr Y<|Ra Y<|Za<|K5 0 2 3 4 10 Y<|Tr<|Rm Y<|Rm Y<|R2 Zcr Y<|Ra Y<|Za<|I2 (fun o i=>⟨[(0, .own 0 o.length), (2, .int .i64 m), (4, .fn cmp_f cmp_c), (10, .int .i64 i)], [some ⟨3, List.map R3 o⟩]⟩) h (fun h=>?_) fun o i h=>?_
 ·
  refine Zg<|?_
  obtain ⟨r1, hl1, ho1⟩ := Xj h
  refine L3 (fun o2 i2 j=>⟨[(0, .own 0 o2.length), (2, .int .i64 m), (4, .fn cmp_f cmp_c), (10, .int .i64 i2), (11, .int .i64 j)], [some ⟨3, List.map R3 o2⟩]⟩) hl1 (ES [some 0]<|sr 0 Y (.own _ Y)<|sd 2 Y Y<|sr 4 Y (rFn<|rld cmp_d)<|sd 10 Y Y<|sd 11 Y Y sn) fun n1 o2 i2 j h=>?_
  unfold Qa at h
  refine Zj<|Tr<|Rm Y<|Rm Y<|R2 Jc Y<|Za<|K6 0 2 4 10 11 20 Y<|If h Y (fun h=>?_) fun h=>?_
  ·
   refine Zi<|Zg<|K5 0 2 4 10 11 Y<|Tr<|Rm Y<|Rm Y<|R2 Zde Y<|Za<|K6 0 2 4 10 11 23 Y<|If h Y (fun h=>?_) fun h=>?_
   ·
    exact K5 0 2 4 10 11 Y<|Tr<|Rm Y<|Rm Y<|Rm Y<|R2 Zcr Y<|Rm Y<|Rm Y<|Rm Y<|bE h fun y h_y h=>Rx Y (ZH [0] (XA cmp_d cmp_h h_y) (.cons (ov Y) (.own _ Y)<|.cons (ov Y) (.dat Y)<|.cons (ov Y) (.dat Y)<|.cons (ov Y) (.dat Y)<|.cons (ov Y) (rFn<|rld cmp_d) .nil) (.cons Y (roM D3) .nil) Y (.lent 0 (.inl Y) Y (roM D3) .nil) Y Y<|Xw<|rld Y)<|Za<|K5 0 2 4 10 11 Y<|Zt<|Rm Y<|Rm Y<|R2 Zcr Y<|Ra Y<|Za<|⟨_, h, ES [some 0]<|sr 0 Y (ZdX (Eq.symm<|Qt h_y) Y)<|sd 2 Y Y<|sr 4 Y (rFn<|rld cmp_d)<|sd 10 Y Y<|sd 11 Y Y sn⟩
   ·
    exact K5 0 2 4 10 11 Y<|Tr<|Rm Y<|Rm Y<|Rm Y<|R2 Zcr Y<|Rm Y<|Rm Y<|R2 ZX Y<|Rm Y<|R2 Zcr Y<|Rm Y<|Rm Y<|bE h fun y2 h_y2 h=>Rx Y (ZH [0] (XA cmp_d cmp_h h_y2) (.cons (ov Y) (.own _ Y)<|.cons (ov Y) (.dat Y)<|.cons (ov Y) (.dat Y)<|.cons (ov Y) (.dat Y)<|.cons (ov Y) (rFn<|rld cmp_d) .nil) (.cons Y (roM D3) .nil) Y (.lent 0 (.inl Y) Y (roM D3) .nil) Y Y<|Xw<|rld Y)<|Za<|K5 0 2 4 10 11 Y<|Zt<|Rm Y<|Rm Y<|R2 Zcr Y<|Ra Y<|Za<|⟨_, h, ES [some 0]<|sr 0 Y (ZdX (Eq.symm<|Qt h_y2) Y)<|sd 2 Y Y<|sr 4 Y (rFn<|rld cmp_d)<|sd 10 Y Y<|sd 11 Y Y sn⟩
  ·
   refine ZS<|?_
   replace h := lx h ▸ ho1
   exact ⟨_, h, ES [some 0]<|sr 0 Y (.own _ Y)<|sd 2 Y Y<|sr 4 Y (rFn<|rld cmp_d)<|sd 10 Y Y sn⟩
 ·
  refine Zt<|Rm Y<|Rm Y<|Rm Y<|R2 Zcr Y<|Rm Y<|Rm Y<|Rm Y<|bE h fun y3 h_y3 h=>Rx Y (ZH [0] (XA cmp_d cmp_h h_y3) (.cons (ov Y) (.own _ Y)<|.cons (ov Y) (.dat Y)<|.cons (ov Y) (.dat Y)<|.cons (ov Y) (.dat Y)<|.cons (ov Y) (rFn<|rld cmp_d) .nil) (.cons Y (roM D3) .nil) Y (.lent 0 (.inl Y) Y (roM D3) .nil) Y Y<|Xw<|rld Y)<|Za<|?_
  obtain rfl := rt h
  exact Zgt [some 0] Y .nil (.cons Y (roM D3) .nil) Y Y<|Xw rln
theorem Zcp {rec_ : List Int → Int → Int → Int → (Int → Int → Option Int) → Option (List Int)} {data : List Int} {a : Int} {m : Int} {b : Int} {cmp : Int → Int → Option Int} {r : (List Int)} {cmp_f : FuncId} {cmp_c : List AV} (cmp_d : cmp_c.all datB = true) (cmp_h : ∀ (z0 : Int) (z1 : Int) z, cmp z0 z1 = some z → CSpec Tryz.prog gl0 cmp_f ([.int .i64 z0, .int .i64 z1] ++ cmp_c) (.int .i64 z)) (ln_rec_ : ∀ {data : List Int} {a : Int} {m : Int} {b : Int} {cmp : Int → Int → Option Int} {r : (List Int)}, rec_ data a m b cmp = some r → r.length = data.length) (hrec : ∀ {data : List Int} {a : Int} {m : Int} {b : Int} {cmp : Int → Int → Option Int} {r : (List Int)} {cmp_f : FuncId} {cmp_c : List AV} (cmp_d : cmp_c.all datB = true) (cmp_h : ∀ (z0 : Int) (z1 : Int) z, cmp z0 z1 = some z → CSpec Tryz.prog gl0 cmp_f ([.int .i64 z0, .int .i64 z1] ++ cmp_c) (.int .i64 z)) (h : rec_ data a m b cmp = some r), GSpec Tryz.prog gl0 156 [.own 0 data.length, .int .i64 a, .int .i64 m, .int .i64 b, .fn cmp_f cmp_c] [some ⟨3, List.map R3 data⟩] (.tuple []) [some ⟨3, List.map R3 r⟩]) (h : Z7 rec_ data a m b cmp = some r) :
 GSpec Tryz.prog gl0 156 [.own 0 data.length, .int .i64 a, .int .i64 m, .int .i64 b, .fn cmp_f cmp_c] [some ⟨3, List.map R3 data⟩] (.tuple []) [some ⟨3, List.map R3 r⟩] := by
 unfold Z7 at h
 replace h := QF h
 refine QO (by kernel_rfl) Tryz.func156 Y Y<|?_
 intro w0 A W φ0
 refine Zj<|Tr<|Rm Y<|Rm Y<|R2 Zcr Y<|R2 ZbU Y<|Za<|K6 0 1 2 3 4 28 Y<|If h Y (fun h=>?_) fun h=>?_
 ·
  refine K5 0 1 2 3 4 Y<|Tr<|Rm Y<|Ra Y<|Za<|K5 0 1 3 4 10 Y<|Tr<|Rm Y<|Ra Y<|Za<|I1 (fun i=>⟨[(0, .own 0 data.length), (1, .int .i64 a), (10, .int .i64 i)], [some ⟨3, List.map R3 data⟩]⟩) h (fun h=>?_) fun i h=>?_
  ·
   refine Zg<|?_
   obtain ⟨r1, hl1, ho1⟩ := Xj h
   refine L2 (fun i2 j=>⟨[(0, .own 0 data.length), (1, .int .i64 a), (4, .fn cmp_f cmp_c), (10, .int .i64 i2), (11, .int .i64 j)], [some ⟨3, List.map R3 data⟩]⟩) hl1 (ES [some 0]<|sr 0 Y (.own _ Y)<|sd 1 Y Y<|sr 4 Y (rFn<|rld cmp_d)<|sd 10 Y Y<|sd 11 Y Y sn) fun n1 i2 j h=>?_
   unfold Qg at h
   refine Zj<|Tr<|Rm Y<|Rm Y<|R2 ZY Y<|Za<|K6 0 1 4 10 11 33 Y<|If h Y (fun h=>?_) fun h=>?_
   ·
    refine Zi<|Zg<|K5 0 1 4 10 11 Y<|Tr<|Rm Y<|Rm Y<|R2 ZX Y<|Rq Y (QA (ov Y) tI3 ZfJ Y)<|bE h fun q h_q h=>Rq Y (Za5 (ov Y) (ov Y) h_q)<|Rq Y (QA (ov Y) ZfJ tI3 Y)<|Ra Y<|Za<|Zj<|K6 0 1 4 10 11 12 Y<|QH (cw := md0) (by kernel_rfl)<|D1 0 Zc Y<|D1 1 Zc Y<|D1 2 Zc Y<|bE h fun x h_x h=>Dq 3 Y (QI (ov Y) (ov Y) Q3 Y Y h_x)<|Dq 4 Y (QG (ov Y) Y Y h_x tS3 Y)<|D1 5 Zc Y<|D1 6 Zc Y<|bE h fun x2 h_x2 h=>Dq 7 Y (QI (ov Y) (ov Y) Q3 Y Y h_x2)<|Dq 8 Y (QG (ov Y) Y Y h_x2 tS3 Y)<|bE h fun y h_y h=>Dq 9 Y (Zdw (ov Y) cmp_d (cmp_h _ _ _ h_y)<|.cons (ov Y) (.b Y)<|.cons (ov Y) (.b Y) .nil)<|D2 10 ZY Y<|Dd<|K7 0 1 4 10 11 12 50 Y<|If h Y (fun h=>?_) fun h=>?_
    ·
     exact K6 0 1 4 10 11 12 Y<|Zt<|Rm Y<|R2 ZX Y<|Ra Y<|Za<|⟨_, h, ES [some 0]<|sr 0 Y (.own _ Y)<|sd 1 Y Y<|sr 4 Y (rFn<|rld cmp_d)<|sd 10 Y Y<|sd 11 Y Y sn⟩
    ·
     exact K6 0 1 4 10 11 12 Y<|Zt<|Rm Y<|Ra Y<|Za<|⟨_, h, ES [some 0]<|sr 0 Y (.own _ Y)<|sd 1 Y Y<|sr 4 Y (rFn<|rld cmp_d)<|sd 10 Y Y<|sd 11 Y Y sn⟩
   ·
    refine ZS<|?_
    replace h := lx h ▸ ho1
    exact ⟨_, h, ES [some 0]⟩
  ·
   refine I1 (fun o=>⟨[], [some ⟨3, List.map R3 o⟩]⟩) h (fun h=>?_) fun o h=>?_
   ·
    refine Tr<|Rm Y<|Ra Y<|Za<|Zg<|?_
    obtain ⟨r2, hl2, ho2⟩ := Xj h
    refine L2 (fun o2 k=>⟨[(0, .own 0 o2.length), (10, .int .i64 i), (13, .int .i64 k)], [some ⟨3, List.map R3 o2⟩]⟩) hl2 (ES [some 0]) fun n2 o2 k h=>?_
    unfold ZL at h
    refine Zj<|Tr<|Rm Y<|Rm Y<|R2 Zcr Y<|R2 ZY Y<|Za<|K4 0 10 13 58 Y<|If h Y (fun h=>?_) fun h=>?_
    ·
     exact Zi<|Zj<|Zg<|K3 0 10 13 Y<|QH (cw := md0) (by kernel_rfl)<|D1 0 Zc Y<|D1 1 Zc Y<|D1 5 Zc Y<|D1 6 Zc Y<|D2 7 ZX Y<|bE h fun x3 h_x3 h=>Dq 8 Y (QI (ov Y) (ov Y) Q3 Y Y h_x3)<|Dq 9 Y (QG (ov Y) Y Y h_x3 tS3 Y)<|D1 10 Zc Y<|D1 11 Zc Y<|bE h fun x4 h_x4 h=>Dq 12 Y (QI (ov Y) (ov Y) Q3 Y Y h_x4)<|Dq 13 Y (QG (ov Y) Y Y h_x4 tS3 Y)<|bE h fun x5 h_x5 h=>Dq 14 Y (QI (ov Y) (ov Y) Q3 Y Y h_x5)<|Z9 2 _ Y (by kernel_rfl) Y Y (fun hp'=>Zc<|ov Y)<|Z9 3 _ Y (by kernel_rfl) Y Y (fun hp'=>Zc<|ov Y)<|Z9 4 _ Y (by kernel_rfl) Y Y (fun hp'=>ZjW (ov Y) (ov Y) Y)<|Do 15 Y (Jh (u' := x3) (ov Y) (ov Y) (Zd tS3) Y Y h_x5 Y (Zb Y) Y)<|bE h fun x6 h_x6 h=>Dq 16 Y (QI (ov Y) (ov Y) Q3 Y ((List.length_set ..).trans Y) h_x6)<|Do 17 Y (Jh (u' := x4) (ov Y) (ov Y) (Zd tS3) Y ((List.length_set ..).trans Y) h_x6 Y (Zb Y) Y)<|Dd<|K3 0 10 13 Y<|Zt<|Rm Y<|R2 ZX Y<|Ra Y<|Za<|⟨_, h, ES [some 0]<|sr 0 Y (ZdX (Eq.symm<|(List.length_set ..).trans<|(List.length_set ..).trans Y) Y)<|sd 10 Y Y<|sd 13 Y Y sn⟩
    ·
     refine ZS<|?_
     replace h := lx h ▸ ho2
     exact ⟨_, h, ES [some 0]⟩
   ·
    obtain rfl := rt h
    exact Zp<|Za2 [some 0] Y .nil (.cons Y (roM D3) .nil) Y Y<|Xw rln
 ·
  refine Zi<|Zj<|K5 0 1 2 3 4 Y<|Tr<|Rm Y<|Rm Y<|R2 Zcr Y<|R2 ZbU Y<|Za<|K6 0 1 2 3 4 80 Y<|If h Y (fun h=>?_) fun h=>?_
  ·
   refine K4 0 1 2 4 Y<|Tr<|Rm Y<|Ra Y<|Za<|K4 0 2 4 14 Y<|Tr<|Rm Y<|Ra Y<|Za<|I1 (fun i3=>⟨[(0, .own 0 data.length), (2, .int .i64 m), (14, .int .i64 i3)], [some ⟨3, List.map R3 data⟩]⟩) h (fun h=>?_) fun i3 h=>?_
   ·
    refine Zg<|?_
    obtain ⟨r3, hl3, ho3⟩ := Xj h
    refine L2 (fun i4 j2=>⟨[(0, .own 0 data.length), (2, .int .i64 m), (4, .fn cmp_f cmp_c), (14, .int .i64 i4), (15, .int .i64 j2)], [some ⟨3, List.map R3 data⟩]⟩) hl3 (ES [some 0]<|sr 0 Y (.own _ Y)<|sd 2 Y Y<|sr 4 Y (rFn<|rld cmp_d)<|sd 14 Y Y<|sd 15 Y Y sn) fun n3 i4 j2 h=>?_
    unfold Qi at h
    refine Zj<|Tr<|Rm Y<|Rm Y<|R2 ZY Y<|Za<|K6 0 2 4 14 15 85 Y<|If h Y (fun h=>?_) fun h=>?_
    ·
     refine Zi<|Zg<|K5 0 2 4 14 15 Y<|Tr<|Rm Y<|Rm Y<|R2 ZX Y<|Rq Y (QA (ov Y) tI3 ZfJ Y)<|bE h fun q2 h_q2 h=>Rq Y (Za5 (ov Y) (ov Y) h_q2)<|Rq Y (QA (ov Y) ZfJ tI3 Y)<|Ra Y<|Za<|Zj<|K6 0 2 4 14 15 16 Y<|QH (cw := md0) (by kernel_rfl)<|D1 0 Zc Y<|D1 1 Zc Y<|D1 2 Zc Y<|bE h fun x7 h_x7 h=>Dq 3 Y (QI (ov Y) (ov Y) Q3 Y Y h_x7)<|Dq 4 Y (QG (ov Y) Y Y h_x7 tS3 Y)<|D1 5 Zc Y<|D1 6 Zc Y<|bE h fun x8 h_x8 h=>Dq 7 Y (QI (ov Y) (ov Y) Q3 Y Y h_x8)<|Dq 8 Y (QG (ov Y) Y Y h_x8 tS3 Y)<|bE h fun y2 h_y2 h=>Dq 9 Y (Zdw (ov Y) cmp_d (cmp_h _ _ _ h_y2)<|.cons (ov Y) (.b Y)<|.cons (ov Y) (.b Y) .nil)<|D2 10 ZY Y<|D1 11 J7 Y<|Dd<|K7 0 2 4 14 15 16 103 Y<|If h Y (fun h=>?_) fun h=>?_
     ·
      exact K6 0 2 4 14 15 16 Y<|Zt<|Rm Y<|R2 ZX Y<|Ra Y<|Za<|⟨_, h, ES [some 0]<|sr 0 Y (.own _ Y)<|sd 2 Y Y<|sr 4 Y (rFn<|rld cmp_d)<|sd 14 Y Y<|sd 15 Y Y sn⟩
     ·
      exact K6 0 2 4 14 15 16 Y<|Zt<|Rm Y<|Ra Y<|Za<|⟨_, h, ES [some 0]<|sr 0 Y (.own _ Y)<|sd 2 Y Y<|sr 4 Y (rFn<|rld cmp_d)<|sd 14 Y Y<|sd 15 Y Y sn⟩
    ·
     refine ZS<|?_
     replace h := lx h ▸ ho3
     exact ⟨_, h, ES [some 0]⟩
   ·
    refine I1 (fun o3=>⟨[], [some ⟨3, List.map R3 o3⟩]⟩) h (fun h=>?_) fun o3 h=>?_
    ·
     refine Tr<|Rm Y<|Ra Y<|Za<|Zg<|?_
     obtain ⟨r4, hl4, ho4⟩ := Xj h
     refine L2 (fun o4 k2=>⟨[(0, .own 0 o4.length), (14, .int .i64 i3), (17, .int .i64 k2)], [some ⟨3, List.map R3 o4⟩]⟩) hl4 (ES [some 0]) fun n4 o4 k2 h=>?_
     unfold ZM at h
     refine Zj<|Tr<|Rm Y<|Rm Y<|R2 Zde Y<|Za<|K4 0 14 17 110 Y<|If h Y (fun h=>?_) fun h=>?_
     ·
      exact Zi<|Zj<|Zg<|K3 0 14 17 Y<|QH (cw := md0) (by kernel_rfl)<|D1 0 Zc Y<|D1 1 Zc Y<|D1 5 Zc Y<|D1 6 Zc Y<|D2 7 Zcr Y<|bE h fun x9 h_x9 h=>Dq 8 Y (QI (ov Y) (ov Y) Q3 Y Y h_x9)<|Dq 9 Y (QG (ov Y) Y Y h_x9 tS3 Y)<|D1 10 Zc Y<|D1 11 Zc Y<|bE h fun x10 h_x10 h=>Dq 12 Y (QI (ov Y) (ov Y) Q3 Y Y h_x10)<|Dq 13 Y (QG (ov Y) Y Y h_x10 tS3 Y)<|bE h fun x11 h_x11 h=>Dq 14 Y (QI (ov Y) (ov Y) Q3 Y Y h_x11)<|Z9 2 _ Y (by kernel_rfl) Y Y (fun hp'=>Zc<|ov Y)<|Z9 3 _ Y (by kernel_rfl) Y Y (fun hp'=>Zc<|ov Y)<|Z9 4 _ Y (by kernel_rfl) Y Y (fun hp'=>Zmh (ov Y) (ov Y) Y)<|Do 15 Y (Jh (u' := x9) (ov Y) (ov Y) (Zd tS3) Y Y h_x11 Y (Zb Y) Y)<|bE h fun x12 h_x12 h=>Dq 16 Y (QI (ov Y) (ov Y) Q3 Y ((List.length_set ..).trans Y) h_x12)<|Do 17 Y (Jh (u' := x10) (ov Y) (ov Y) (Zd tS3) Y ((List.length_set ..).trans Y) h_x12 Y (Zb Y) Y)<|Dd<|K3 0 14 17 Y<|Zt<|Rm Y<|R2 Zcr Y<|Ra Y<|Za<|⟨_, h, ES [some 0]<|sr 0 Y (ZdX (Eq.symm<|(List.length_set ..).trans<|(List.length_set ..).trans Y) Y)<|sd 14 Y Y<|sd 17 Y Y sn⟩
     ·
      refine ZS<|?_
      replace h := lx h ▸ ho4
      exact ⟨_, h, ES [some 0]⟩
    ·
     obtain rfl := rt h
     exact Zp<|Za2 [some 0] Y .nil (.cons Y (roM D3) .nil) Y Y<|Xw rln
  ·
   refine Zi<|K5 0 1 2 3 4 Y<|Tr<|Rm Y<|Rm Y<|R2 ZX Y<|Rq Y (QA (ov Y) tI3 ZfJ Y)<|bE h fun q3 h_q3 h=>Rq Y (Za5 (ov Y) (ov Y) h_q3)<|Rq Y (QA (ov Y) ZfJ tI3 Y)<|Ra Y<|Za<|K6 0 1 2 3 4 18 Y<|Tr<|Rm Y<|Rm Y<|R2 ZX Y<|Ra Y<|Za<|K7 0 1 2 3 4 18 19 Y<|Tr<|Ra Y<|Ra Y<|Za<|I2 (fun start r_=>⟨[(0, .own 0 data.length), (1, .int .i64 a), (2, .int .i64 m), (3, .int .i64 b), (4, .fn cmp_f cmp_c), (18, .int .i64 (i64 q3)), (19, .int .i64 (i64 ((i64 q3) + m))), (20, .int .i64 start), (21, .int .i64 r_)], [some ⟨3, List.map R3 data⟩]⟩) h (fun h=>?_) fun start r_ h=>?_
   ·
    refine K7 0 1 2 3 4 18 19 Y<|Tr<|Rm Y<|Rm Y<|R2 Zde Y<|Za<|K8 0 1 2 3 4 18 19 140 Y<|If h Y (fun h=>?_) fun h=>?_
    ·
     exact K7 0 1 2 3 4 18 19 Y<|Tr<|Rm Y<|Rm Y<|R2 Zcr Y<|Ra Y<|Za<|K8 0 1 2 3 4 18 19 20 Y<|Zt<|Rm Y<|Ra Y<|Za<|⟨_, h, ES [some 0]<|sr 0 Y (.own _ Y)<|sd 1 Y Y<|sd 2 Y Y<|sd 3 Y Y<|sr 4 Y (rFn<|rld cmp_d)<|sd 18 Y Y<|sd 19 Y Y<|sd 20 Y Y<|sd 21 Y Y sn⟩
    ·
     exact K7 0 1 2 3 4 18 19 Y<|Tr<|Rm Y<|Ra Y<|Za<|K8 0 1 2 3 4 18 19 20 Y<|Zt<|Rm Y<|Ra Y<|Za<|⟨_, h, ES [some 0]<|sr 0 Y (.own _ Y)<|sd 1 Y Y<|sd 2 Y Y<|sd 3 Y Y<|sr 4 Y (rFn<|rld cmp_d)<|sd 18 Y Y<|sd 19 Y Y<|sd 20 Y Y<|sd 21 Y Y sn⟩
   ·
    refine Tr<|Rm Y<|R2 Zcr Y<|Ra Y<|Za<|I1 (fun start2=>⟨[(0, .own 0 data.length), (1, .int .i64 a), (2, .int .i64 m), (3, .int .i64 b), (4, .fn cmp_f cmp_c), (18, .int .i64 (i64 q3)), (19, .int .i64 (i64 ((i64 q3) + m))), (20, .int .i64 start2)], [some ⟨3, List.map R3 data⟩]⟩) h (fun h=>?_) fun start2 h=>?_
    ·
     refine Zg<|?_
     obtain ⟨r5, hl5, ho5⟩ := Xj h
     refine L2 (fun start3 r_2=>⟨[(0, .own 0 data.length), (1, .int .i64 a), (2, .int .i64 m), (3, .int .i64 b), (4, .fn cmp_f cmp_c), (18, .int .i64 (i64 q3)), (19, .int .i64 (i64 ((i64 q3) + m))), (20, .int .i64 start3), (21, .int .i64 r_2), (22, .int .i64 (i64 ((i64 ((i64 q3) + m)) - 1)))], [some ⟨3, List.map R3 data⟩]⟩) hl5 (ES [some 0]<|sr 0 Y (.own _ Y)<|sd 1 Y Y<|sd 2 Y Y<|sd 3 Y Y<|sr 4 Y (rFn<|rld cmp_d)<|sd 18 Y Y<|sd 19 Y Y<|sd 20 Y Y<|sd 21 Y Y<|sd 22 Y Y sn) fun n5 start3 r_2 h=>?_
     unfold Qx at h
     refine Zj<|Tr<|Rm Y<|Rm Y<|R2 ZY Y<|Za<|K11 0 1 2 3 4 18 19 20 21 22 151 Y<|If h Y (fun h=>?_) fun h=>?_
     ·
      refine Zi<|Zg<|K10 0 1 2 3 4 18 19 20 21 22 Y<|Tr<|Rm Y<|Rm Y<|R2 ZX Y<|Rq Y (QA (ov Y) tI3 ZfJ Y)<|bE h fun q4 h_q4 h=>Rq Y (Za5 (ov Y) (ov Y) h_q4)<|Rq Y (QA (ov Y) ZfJ tI3 Y)<|Ra Y<|Za<|Zj<|K11 0 1 2 3 4 18 19 20 21 22 23 Y<|QH (cw := md0) (by kernel_rfl)<|D1 0 Zc Y<|D1 1 Zc Y<|D1 2 Zc Y<|D1 3 Zc Y<|D2 4 Zcr Y<|bE h fun x13 h_x13 h=>Dq 5 Y (QI (ov Y) (ov Y) Q3 Y Y h_x13)<|Dq 6 Y (QG (ov Y) Y Y h_x13 tS3 Y)<|D1 7 Zc Y<|D1 8 Zc Y<|bE h fun x14 h_x14 h=>Dq 9 Y (QI (ov Y) (ov Y) Q3 Y Y h_x14)<|Dq 10 Y (QG (ov Y) Y Y h_x14 tS3 Y)<|bE h fun y3 h_y3 h=>Dq 11 Y (Zdw (ov Y) cmp_d (cmp_h _ _ _ h_y3)<|.cons (ov Y) (.b Y)<|.cons (ov Y) (.b Y) .nil)<|D2 12 ZY Y<|D1 13 J7 Y<|Dd<|K12 0 1 2 3 4 18 19 20 21 22 23 171 Y<|If h Y (fun h=>?_) fun h=>?_
      ·
       exact K11 0 1 2 3 4 18 19 20 21 22 23 Y<|Zt<|Rm Y<|R2 ZX Y<|Ra Y<|Za<|⟨_, h, ES [some 0]<|sr 0 Y (.own _ Y)<|sd 1 Y Y<|sd 2 Y Y<|sd 3 Y Y<|sr 4 Y (rFn<|rld cmp_d)<|sd 18 Y Y<|sd 19 Y Y<|sd 20 Y Y<|sd 21 Y Y<|sd 22 Y Y sn⟩
      ·
       exact K11 0 1 2 3 4 18 19 20 21 22 23 Y<|Zt<|Rm Y<|Ra Y<|Za<|⟨_, h, ES [some 0]<|sr 0 Y (.own _ Y)<|sd 1 Y Y<|sd 2 Y Y<|sd 3 Y Y<|sr 4 Y (rFn<|rld cmp_d)<|sd 18 Y Y<|sd 19 Y Y<|sd 20 Y Y<|sd 21 Y Y<|sd 22 Y Y sn⟩
     ·
      refine ZS<|?_
      replace h := lx h ▸ ho5
      exact ⟨_, h, ES [some 0]<|sr 0 Y (.own _ Y)<|sd 1 Y Y<|sd 2 Y Y<|sd 3 Y Y<|sr 4 Y (rFn<|rld cmp_d)<|sd 18 Y Y<|sd 19 Y Y<|sd 20 Y Y sn⟩
    ·
     refine Tr<|Rm Y<|Rm Y<|R2 Zcr Y<|Ra Y<|Za<|I1 (fun o5=>⟨[(0, .own 0 o5.length), (1, .int .i64 a), (3, .int .i64 b), (4, .fn cmp_f cmp_c), (18, .int .i64 (i64 q3)), (20, .int .i64 start2), (24, .int .i64 (i64 ((i64 ((i64 q3) + m)) - start2)))], [some ⟨3, List.map R3 o5⟩]⟩) h (fun h=>?_) fun o5 h=>?_
     ·
      refine K8 0 1 2 3 4 18 20 24 Y<|Tr<|Rm Y<|Rm Y<|R2 ZY Y<|Rm Y<|Rq Y (.guarded ((decide (start2 < m)) == true) Y Y Y Y fun h => Zc<|ov Y)<|Rq Y (.guarded ((decide (start2 < m)) == true) Y Y Y Y fun h => Zc<|ov Y)<|Rq Y (.guarded ((decide (start2 < m)) == true) Y Y Y Y fun h => ZY (ow Y h)<|ow Y h)<|Rq Y (ZaZ (ov Y) fun hp=>ow Y<|gT hp)<|Za<|K9 0 1 2 3 4 18 20 24 185 Y<|If h Y (fun h=>?_) fun h=>?_
      ·
       exact K8 0 1 2 3 4 18 20 24 Y<|Zt<|Rm Y<|Rm Y<|Rm Y<|Rm Y<|Rm Y<|bE h fun y4 h_y4 h=>Rx Y (ZH [0] (Zdv cmp_d cmp_h h_y4) (.cons (ov Y) (.own _ Y)<|.cons (ov Y) (.dat Y)<|.cons (ov Y) (.dat Y)<|.cons (ov Y) (.dat Y)<|.cons (ov Y) (rFn<|rld cmp_d) .nil) (.cons Y (roM D3) .nil) Y (.lent 0 (.inl Y) Y (roM D3) .nil) Y Y<|Xw<|rld Y)<|Za<|⟨_, h, ES [some 0]<|sr 0 Y (ZdX (Eq.symm<|Zaw h_y4) Y)<|sd 1 Y Y<|sd 3 Y Y<|sr 4 Y (rFn<|rld cmp_d)<|sd 18 Y Y<|sd 20 Y Y<|sd 24 Y Y sn⟩
      ·
       exact Zi<|⟨_, h, ES [some 0]<|sr 0 Y (.own _ Y)<|sd 1 Y Y<|sd 3 Y Y<|sr 4 Y (rFn<|rld cmp_d)<|sd 18 Y Y<|sd 20 Y Y<|sd 24 Y Y sn⟩
     ·
      refine I1 (fun o6=>⟨[(0, .own 0 o6.length), (3, .int .i64 b), (4, .fn cmp_f cmp_c), (18, .int .i64 (i64 q3)), (24, .int .i64 (i64 ((i64 ((i64 q3) + m)) - start2)))], [some ⟨3, List.map R3 o6⟩]⟩) h (fun h=>?_) fun o6 h=>?_
      ·
       refine Tr<|Rm Y<|Rm Y<|R2 ZY Y<|Rm Y<|Rq Y (.guarded ((decide (a < start2)) == true) Y Y Y Y fun h => Zc<|ov Y)<|Rq Y (.guarded ((decide (a < start2)) == true) Y Y Y Y fun h => Zc<|ov Y)<|Rq Y (.guarded ((decide (a < start2)) == true) Y Y Y Y fun h => ZY (ow Y h)<|ow Y h)<|Rq Y (ZaZ (ov Y) fun hp=>ow Y<|gT hp)<|Za<|K8 0 1 3 4 18 20 24 199 Y<|If h Y (fun h=>?_) fun h=>?_
       ·
        exact K7 0 1 3 4 18 20 24 Y<|Zt<|Rm Y<|Rm Y<|Rm Y<|Rm Y<|Rm Y<|bE h fun y5 h_y5 h=>Rx Y (ZH [0] (hrec cmp_d cmp_h h_y5) (.cons (ov Y) (.own _ Y)<|.cons (ov Y) (.dat Y)<|.cons (ov Y) (.dat Y)<|.cons (ov Y) (.dat Y)<|.cons (ov Y) (rFn<|rld cmp_d) .nil) (.cons Y (roM D3) .nil) Y (.lent 0 (.inl Y) Y (roM D3) .nil) Y Y<|Xw<|rld Y)<|Za<|⟨_, h, ES [some 0]<|sr 0 Y (ZdX (Eq.symm<|ln_rec_ h_y5) Y)<|sd 3 Y Y<|sr 4 Y (rFn<|rld cmp_d)<|sd 18 Y Y<|sd 24 Y Y sn⟩
       ·
        exact Zi<|⟨_, h, ES [some 0]<|sr 0 Y (.own _ Y)<|sd 3 Y Y<|sr 4 Y (rFn<|rld cmp_d)<|sd 18 Y Y<|sd 24 Y Y sn⟩
      ·
       refine Tr<|Rm Y<|Rm Y<|R2 ZY Y<|Rm Y<|Rq Y (.guarded ((decide ((i64 q3) < (i64 ((i64 ((i64 q3) + m)) - start2)))) == true) Y Y Y Y fun h => Zc<|ov Y)<|Rq Y (.guarded ((decide ((i64 q3) < (i64 ((i64 ((i64 q3) + m)) - start2)))) == true) Y Y Y Y fun h => Zc<|ov Y)<|Rq Y (.guarded ((decide ((i64 q3) < (i64 ((i64 ((i64 q3) + m)) - start2)))) == true) Y Y Y Y fun h => ZY (ow Y h)<|ow Y h)<|Rq Y (ZaZ (ov Y) fun hp=>ow Y<|gT hp)<|Za<|K6 0 3 4 18 24 213 Y<|If h Y (fun h=>?_) fun h=>?_
       ·
        refine K5 0 3 4 18 24 Y<|Zt<|Rm Y<|Rm Y<|Rm Y<|Rm Y<|Rm Y<|bE h fun y6 h_y6 h=>Rx Y (ZH [0] (hrec cmp_d cmp_h h_y6) (.cons (ov Y) (.own _ Y)<|.cons (ov Y) (.dat Y)<|.cons (ov Y) (.dat Y)<|.cons (ov Y) (.dat Y)<|.cons (ov Y) (rFn<|rld cmp_d) .nil) (.cons Y (roM D3) .nil) Y (.lent 0 (.inl Y) Y (roM D3) .nil) Y Y<|Xw<|rld Y)<|Za<|?_
        obtain rfl := rt h
        exact Zgt [some 0] Y .nil (.cons Y (roM D3) .nil) Y Y<|Xw rln
       ·
        refine Zi<|?_
        obtain rfl := rt h
        exact Zgt [some 0] Y .nil (.cons Y (roM D3) .nil) Y Y<|Xw rln
end Go.Proofs.YtnlmjeleocelgaaGreatDoor
