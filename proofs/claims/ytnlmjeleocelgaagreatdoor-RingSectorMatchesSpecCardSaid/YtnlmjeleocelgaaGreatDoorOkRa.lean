/- A text of the proof: a verified executor of the program form, or the contracts of the functions that the law reaches. -/
import Derived.Test.YtnlmjeleocelgaaGreatDoorVS
import Derived.Test.YtnlmjeleocelgaaGreatDoorPA
import Derived.Test.YtnlmjeleocelgaaGreatDoorProg
import Derived.Test.YtnlmjeleocelgaaGreatDoorLayZ
set_option linter.all false
namespace Go.Proofs.YtnlmjeleocelgaaGreatDoor
open Go Go.Vx
set_option maxRecDepth 10000
set_option maxHeartbeats 2000000
set_option linter.unusedVariables false
theorem Zdk : XE Tryz.prog 26 = some [.int .i64 0, .int .i64 0, .slice none 0 0, .slice none 0 0, .slice none 0 0] := by kernel_rfl
theorem tZ_26 : Tryz.prog.cellsOf 26 = 5 := by kernel_rfl
instance : SzD Tryz.prog 26 5 := ⟨tZ_26⟩
theorem Zho : Zb1 Tryz.prog 26 = some [(0, 1), (1, 1), (2, 1), (3, 1), (4, 1)] := by kernel_rfl
theorem Zhl : Zei Tryz.prog 26 = true := by kernel_rfl
theorem Jg : tAgg Tryz.prog 26 5 = true := by kernel_rfl
theorem tZ_3 : Tryz.prog.cellsOf 3 = 1 := by kernel_rfl
instance : SzD Tryz.prog 3 1 := ⟨tZ_3⟩
theorem Q3 : tSl Tryz.prog 23 3 1 8 = true := by kernel_rfl
theorem tZ3 : XE Tryz.prog 3 = some [.int .i64 0] := by kernel_rfl
theorem tZ_4 : Tryz.prog.cellsOf 4 = 1 := by kernel_rfl
instance : SzD Tryz.prog 4 1 := ⟨tZ_4⟩
theorem ZhP : tSl Tryz.prog 24 4 1 1 = true := by kernel_rfl
theorem tZ4 : XE Tryz.prog 4 = some [.bool false] := by kernel_rfl
theorem ZG : tFld Tryz.prog 26 2 2 = true := by kernel_rfl
theorem Qd : tScal Tryz.prog 22 = true := by kernel_rfl
theorem Z5 : tSl Tryz.prog 49 5 1 1 = true := by kernel_rfl
theorem tZ_5 : Tryz.prog.cellsOf 5 = 1 := by kernel_rfl
instance : SzD Tryz.prog 5 1 := ⟨tZ_5⟩
theorem tI3 : tInt Tryz.prog 3 .i64 = true := by kernel_rfl
theorem Zlb : tInt Tryz.prog 132 .u64 = true := by kernel_rfl
theorem tZ5 : XE Tryz.prog 5 = some [.int .u8 0] := by kernel_rfl
theorem Z1 : tSl Tryz.prog 22 49 1 24 = true := by kernel_rfl
theorem tZ_49 : Tryz.prog.cellsOf 49 = 1 := by kernel_rfl
instance : SzD Tryz.prog 49 1 := ⟨tZ_49⟩
theorem tS5 : tScal Tryz.prog 5 = true := by kernel_rfl
theorem Zhj : tFld Tryz.prog 26 0 0 = true := by kernel_rfl
theorem tS3 : tScal Tryz.prog 3 = true := by kernel_rfl
theorem ZjG : tFld Tryz.prog 26 1 1 = true := by kernel_rfl
theorem ZgW : tScal Tryz.prog 49 = true := by kernel_rfl
theorem ZmZ : tU8 Tryz.prog 5 = true := by kernel_rfl
theorem ZjW : tStr Tryz.prog 9 = true := by kernel_rfl
theorem Ze7 : tFld Tryz.prog 26 3 3 = true := by kernel_rfl
theorem Zjm : tScal Tryz.prog 23 = true := by kernel_rfl
theorem Zf9 : tFld Tryz.prog 26 4 4 = true := by kernel_rfl
theorem Zjx : tScal Tryz.prog 24 = true := by kernel_rfl
theorem tS4 : tScal Tryz.prog 4 = true := by kernel_rfl
theorem tB4 : (match Tryz.prog.underlying 4 with | some .bool => true | _ => false) = true := by kernel_rfl
theorem Zby : XE Tryz.prog 42 = some [.int .u16 0, .int .u16 0, .int .u16 0, .int .u16 0, .int .u16 0, .int .u16 0, .int .u16 0, .int .u16 0, .int .u16 0, .int .u16 0, .int .u16 0, .int .u16 0, .int .u16 0, .int .u16 0, .int .u16 0, .int .u16 0, .int .u16 0, .int .u16 0, .int .u16 0, .int .u16 0, .int .u16 0, .int .u16 0, .int .u16 0, .int .u16 0, .int .u16 0, .int .u16 0, .int .u16 0, .int .u16 0, .int .u16 0, .int .u16 0, .int .u16 0, .int .u16 0, .int .u16 0, .int .u16 0, .int .u16 0, .int .u16 0, .int .u16 0, .int .u16 0, .int .u16 0, .int .u16 0, .int .u16 0, .int .u16 0, .int .u16 0, .int .u16 0, .int .u16 0, .int .u16 0, .int .u16 0, .int .u16 0, .int .u16 0, .int .u16 0, .int .u16 0, .int .u16 0, .int .u16 0, .int .u16 0, .int .u16 0, .int .u16 0, .int .u16 0, .int .u16 0, .int .u16 0, .int .u16 0, .int .u16 0, .int .u16 0, .int .u16 0, .int .u16 0] := by kernel_rfl
theorem tZ_42 : Tryz.prog.cellsOf 42 = 64 := by kernel_rfl
instance : SzD Tryz.prog 42 64 := ⟨tZ_42⟩
theorem XT : tArr Tryz.prog 42 64 40 1 = true := by kernel_rfl
theorem Qq : tAgg Tryz.prog 42 64 = true := by kernel_rfl
theorem ZcR : tInt Tryz.prog 40 .u16 = true := by kernel_rfl
theorem Zar : tScal Tryz.prog 40 = true := by kernel_rfl
theorem ZlT : tArr Tryz.prog 196 4 3 1 = true := by kernel_rfl
theorem Zm6 : XE Tryz.prog 196 = some [.int .i64 0, .int .i64 0, .int .i64 0, .int .i64 0] := by kernel_rfl
theorem ZcF : tSl Tryz.prog 33 26 5 88 = true := by kernel_rfl
theorem Zl9 : Zb1 Tryz.prog 102 = some [(0, 2), (2, 1), (3, 1), (4, 1), (5, 1), (6, 1)] := by kernel_rfl
theorem Zml : Zei Tryz.prog 102 = true := by kernel_rfl
theorem Zm7 : XE Tryz.prog 102 = some [.slice none 0 0, .slice none 0 0, .int .i64 0, .bool false, .bool false, .int .i64 0, .bool false] := by kernel_rfl
theorem ZmL : tAgg Tryz.prog 102 7 = true := by kernel_rfl
theorem Zmz : (match Tryz.prog.underlying 49 with | some (.slice _) => true | _ => false) = true := by kernel_rfl
theorem Zmk : (match Tryz.prog.underlying 23 with | some (.slice _) => true | _ => false) = true := by kernel_rfl
theorem Zmv : (match Tryz.prog.underlying 24 with | some (.slice _) => true | _ => false) = true := by kernel_rfl
theorem Zc2 : tFld Tryz.prog 102 0 0 = true := by kernel_rfl
theorem Zco : tFld Tryz.prog 100 0 0 = true := by kernel_rfl
theorem ZiB : tScal Tryz.prog 33 = true := by kernel_rfl
theorem Zif : XE Tryz.prog 105 = some [.int .i64 0, .int .i64 0] := by kernel_rfl
theorem tZ_105 : Tryz.prog.cellsOf 105 = 2 := by kernel_rfl
instance : SzD Tryz.prog 105 2 := ⟨tZ_105⟩
theorem Znf : XE Tryz.prog 92 = some [.nilFunc] := by kernel_rfl
theorem tZ_92 : Tryz.prog.cellsOf 92 = 1 := by kernel_rfl
instance : SzD Tryz.prog 92 1 := ⟨tZ_92⟩
theorem ZmA : tScal Tryz.prog 92 = true := by kernel_rfl
theorem Zhh : tArr Tryz.prog 225 16 5 1 = true := by kernel_rfl
theorem tI5 : tInt Tryz.prog 5 .u8 = true := by kernel_rfl
theorem ZjD : Zb1 Tryz.prog 105 = some [(0, 1), (1, 1)] := by kernel_rfl
theorem ZjB : Zei Tryz.prog 105 = true := by kernel_rfl
theorem ZfL : tAgg Tryz.prog 105 2 = true := by kernel_rfl
theorem ZeI : tFld Tryz.prog 105 0 0 = true := by kernel_rfl
theorem Zi5 : tArr Tryz.prog 224 97 5 1 = true := by kernel_rfl
theorem ZfC : tFld Tryz.prog 105 1 1 = true := by kernel_rfl
theorem ZdP : tFld Tryz.prog 100 1 1 = true := by kernel_rfl
theorem Zjz : tScal Tryz.prog 98 = true := by kernel_rfl
theorem Zjp : tSl Tryz.prog 98 105 2 16 = true := by kernel_rfl
theorem Ziy : tFld Tryz.prog 102 2 3 = true := by kernel_rfl
theorem tZ_102 : Tryz.prog.cellsOf 102 = 7 := by kernel_rfl
instance : SzD Tryz.prog 102 7 := ⟨tZ_102⟩
theorem Zj3 : tFld Tryz.prog 102 3 4 = true := by kernel_rfl
theorem Zhv : Zb1 Tryz.prog 149 = some [(0, 1), (1, 1)] := by kernel_rfl
theorem Zhq : Zei Tryz.prog 149 = true := by kernel_rfl
theorem ZiQ : XE Tryz.prog 149 = some [.int .i64 0, .int .i64 0] := by kernel_rfl
theorem Zdy : tSl Tryz.prog 108 149 2 16 = true := by kernel_rfl
theorem tZ_149 : Tryz.prog.cellsOf 149 = 2 := by kernel_rfl
instance : SzD Tryz.prog 149 2 := ⟨tZ_149⟩
theorem ZmU : tArr Tryz.prog 150 4 40 1 = true := by kernel_rfl
theorem ZlQ : tFld Tryz.prog 102 1 2 = true := by kernel_rfl
theorem ZlZ : XE Tryz.prog 157 = some [.int .u8 0, .int .u8 0, .int .u8 0, .int .u8 0, .int .u8 0, .int .u8 0, .int .u8 0, .int .u8 0, .int .u8 0, .int .u8 0, .int .u8 0, .int .u8 0, .int .u8 0, .int .u8 0, .int .u8 0, .int .u8 0, .int .u8 0, .int .u8 0, .int .u8 0, .int .u8 0, .int .u8 0, .int .u8 0, .int .u8 0, .int .u8 0, .int .u8 0, .int .u8 0, .int .u8 0, .int .u8 0, .int .u8 0, .int .u8 0, .int .u8 0, .int .u8 0, .int .u8 0, .int .u8 0, .int .u8 0, .int .u8 0, .int .u8 0, .int .u8 0, .int .u8 0, .int .u8 0, .int .u8 0, .int .u8 0, .int .u8 0, .int .u8 0, .int .u8 0, .int .u8 0, .int .u8 0, .int .u8 0, .int .u8 0, .int .u8 0, .int .u8 0, .int .u8 0, .int .u8 0, .int .u8 0, .int .u8 0, .int .u8 0, .int .u8 0, .int .u8 0, .int .u8 0, .int .u8 0, .int .u8 0, .int .u8 0, .int .u8 0, .int .u8 0, .int .u8 0, .int .u8 0, .int .u8 0, .int .u8 0, .int .u8 0, .int .u8 0, .int .u8 0, .int .u8 0, .int .u8 0, .int .u8 0, .int .u8 0, .int .u8 0, .int .u8 0, .int .u8 0, .int .u8 0, .int .u8 0, .int .u8 0, .int .u8 0, .int .u8 0, .int .u8 0, .int .u8 0, .int .u8 0, .int .u8 0, .int .u8 0, .int .u8 0, .int .u8 0, .int .u8 0, .int .u8 0, .int .u8 0, .int .u8 0, .int .u8 0, .int .u8 0] := by kernel_rfl
theorem tZ_157 : Tryz.prog.cellsOf 157 = 96 := by kernel_rfl
instance : SzD Tryz.prog 157 96 := ⟨tZ_157⟩
theorem Zc7 : tArr Tryz.prog 157 96 5 1 = true := by kernel_rfl
theorem ZlK : tFld Tryz.prog 102 4 5 = true := by kernel_rfl
theorem Zlp : tFld Tryz.prog 102 5 6 = true := by kernel_rfl
theorem ZlW : tAgg Tryz.prog 157 96 = true := by kernel_rfl
theorem ZmO : Zb1 Tryz.prog 65 = some [(0, 1), (1, 1), (2, 1), (3, 1), (4, 64)] := by kernel_rfl
theorem ZmY : Zei Tryz.prog 65 = true := by kernel_rfl
theorem Zme : XE Tryz.prog 65 = some ([.int .i64 0, .int .i64 0, .int .i64 0, .int .i64 0] ++ (List.flatten (List.replicate 64 [.int .u16 0]))) := by kernel_rfl
theorem Zlx : tSl Tryz.prog 60 65 68 160 = true := by kernel_rfl
theorem tZ_65 : Tryz.prog.cellsOf 65 = 68 := by kernel_rfl
instance : SzD Tryz.prog 65 68 := ⟨tZ_65⟩
theorem Zil : tMap Tryz.prog 127 3 65 = true := by kernel_rfl
theorem Zl4 : ZjP Tryz.prog 65 = some (.agg (([.int .i64 0, .int .i64 0, .int .i64 0, .int .i64 0] ++ (List.flatten (List.replicate 64 [.int .u16 0]))) : List Value).toArray) := by kernel_rfl
theorem ZlJ : tAgg Tryz.prog 65 68 = true := by kernel_rfl
theorem ZkN : tFld Tryz.prog 65 4 4 = true := by kernel_rfl
theorem ZkF : tFld Tryz.prog 65 2 2 = true := by kernel_rfl
theorem tZ_127 : Tryz.prog.cellsOf 127 = 1 := by kernel_rfl
instance : SzD Tryz.prog 127 1 := ⟨tZ_127⟩
theorem Zlv : ZkY Tryz.prog 65 4 4 42 64 = true := by kernel_rfl
theorem ZlN : tSl Tryz.prog 66 42 64 128 = true := by kernel_rfl
theorem Zku : tInt Tryz.prog 169 .u32 = true := by kernel_rfl
theorem Zle : tSl Tryz.prog 170 169 1 4 = true := by kernel_rfl
theorem tZ_169 : Tryz.prog.cellsOf 169 = 1 := by kernel_rfl
instance : SzD Tryz.prog 169 1 := ⟨tZ_169⟩
theorem ZmQ : tScal Tryz.prog 169 = true := by kernel_rfl
def gl0 : Gl := ⟨1, [(0, (gv_frame_syncs.toList.map fun z => Value.int .u16 z).toArray)]⟩
def R3 (x : Int) : List AV := [.int .i64 x]
def R4 (x : Bool) : List AV := [.bool x]
theorem D3 (x : Int) : (R3 x).length = Tryz.prog.cellsOf 3 ∧ (R3 x).all datB = true := ⟨tZ_3.symm, rfl⟩
instance : RowD Tryz.prog 3 R3 := ⟨D3⟩
theorem D4 (x : Bool) : (R4 x).length = Tryz.prog.cellsOf 4 ∧ (R4 x).all datB = true := ⟨tZ_4.symm, rfl⟩
instance : RowD Tryz.prog 4 R4 := ⟨D4⟩
def R5 (x : Int) : List AV := [.int .u8 x]
def C5 (x : Int) : AV := .int .u8 x
theorem D5 (x : Int) : (R5 x).length = Tryz.prog.cellsOf 5 ∧ (R5 x).all datB = true := ⟨tZ_5.symm, rfl⟩
instance : RowD Tryz.prog 5 R5 := ⟨D5⟩
def R49 (x : List Int) : List AV := [.sl 5 (List.map R5 x)]
theorem D49 (x : List Int) : (R49 x).length = Tryz.prog.cellsOf 49 ∧ (R49 x).all datB = true := ⟨tZ_49.symm, rfl⟩
instance : RowD Tryz.prog 49 R49 := ⟨D49⟩
theorem DR5 (x : Int) : (R5 x).length = Tryz.prog.cellsOf 5 ∧ Zci Tryz.prog (R5 x) := ⟨(D5 x).1, dlF rfl⟩
def O49 (x : List Int) : List AV := [.osub 5 (List.map R5 x)]
theorem Xn (x : List Int) : (O49 x).length = Tryz.prog.cellsOf 49 ∧ Zci Tryz.prog (O49 x) := ⟨tZ_49.symm, dlC (dcS DR5) <| dlN⟩
theorem Zmt (x : List Int) : Pw (MeltC Tryz.prog) (O49 x) (R49 x) := .cons (mcS DR5 (fun x => (D5 x).1) (fun _ => mcF rfl)) <| .nil
def C40 (x : Int) : AV := .int .u16 x
def C3 (x : Int) : AV := .int .i64 x
def R26 (x : api_Memory) : List AV := [.int .i64 x.Slots, .int .i64 x.Limit, .sl 49 (List.map R49 x.Sectors), .sl 3 (List.map R3 x.Wear), .sl 4 (List.map R4 x.Bad)]
theorem D26 (x : api_Memory) : (R26 x).length = Tryz.prog.cellsOf 26 ∧ (R26 x).all datB = true := ⟨tZ_26.symm, rfl⟩
instance : RowD Tryz.prog 26 R26 := ⟨D26⟩
theorem DR3 (x : Int) : (R3 x).length = Tryz.prog.cellsOf 3 ∧ Zci Tryz.prog (R3 x) := ⟨(D3 x).1, dlF rfl⟩
theorem DR4 (x : Bool) : (R4 x).length = Tryz.prog.cellsOf 4 ∧ Zci Tryz.prog (R4 x) := ⟨(D4 x).1, dlF rfl⟩
def O26 (x : api_Memory) : List AV := [.int .i64 x.Slots, .int .i64 x.Limit, .osub 49 (List.map O49 x.Sectors), .osub 3 (List.map R3 x.Wear), .osub 4 (List.map R4 x.Bad)]
theorem Xo (x : api_Memory) : (O26 x).length = Tryz.prog.cellsOf 26 ∧ Zci Tryz.prog (O26 x) := ⟨tZ_26.symm, dlC (.flat rfl) <| dlC (.flat rfl) <| dlC (dcS Xn) <| dlC (dcS DR3) <| dlC (dcS DR4) <| dlN⟩
theorem Zjv (x : api_Memory) : Pw (MeltC Tryz.prog) (O26 x) (R26 x) := .cons (.dat rfl) <| .cons (.dat rfl) <| .cons (mcS Xn (fun x => (D49 x).1) Zmt) <| .cons (mcS DR3 (fun x => (D3 x).1) (fun _ => mcF rfl)) <| .cons (mcS DR4 (fun x => (D4 x).1) (fun _ => mcF rfl)) <| .nil
def R105 (x : ring_spot) : List AV := [.int .i64 x.sector, .int .i64 x.slot]
theorem D105 (x : ring_spot) : (R105 x).length = Tryz.prog.cellsOf 105 ∧ (R105 x).all datB = true := ⟨tZ_105.symm, rfl⟩
instance : RowD Tryz.prog 105 R105 := ⟨D105⟩
def R149 (x : api_Flaw) : List AV := [.int .i64 x.Word, .int .i64 x.Kind]
theorem D149 (x : api_Flaw) : (R149 x).length = Tryz.prog.cellsOf 149 ∧ (R149 x).all datB = true := ⟨tZ_149.symm, rfl⟩
instance : RowD Tryz.prog 149 R149 := ⟨D149⟩
theorem at1 {a0 : AV} {a1 : AV} {a2 : AV} {a3 : AV} {v4 : Vector Int 64} : At ((a0) :: (a1) :: (a2) :: (a3) :: ((List.map C40 v4.toList) ++ ([]))) 0 1 ([a0]) := at0 (hdc (n := 0) hd0)
theorem pt2 {a0 : AV} {a1 : AV} {a2 : AV} {a3 : AV} {v4 : Vector Int 64} {b0 : AV} : Put ((a0) :: (a1) :: (a2) :: (a3) :: ((List.map C40 v4.toList) ++ ([]))) 0 ([b0]) ((b0) :: (a1) :: (a2) :: (a3) :: ((List.map C40 v4.toList) ++ ([]))) := Zly
theorem at3 {a0 : AV} {a1 : AV} {a2 : AV} {a3 : AV} {v4 : Vector Int 64} : At ((a0) :: (a1) :: (a2) :: (a3) :: ((List.map C40 v4.toList) ++ ([]))) 1 1 ([a1]) := atc (o := 0) (at0 (hdc (n := 0) hd0))
theorem pt4 {a0 : AV} {a1 : AV} {a2 : AV} {a3 : AV} {v4 : Vector Int 64} {b1 : AV} : Put ((a0) :: (a1) :: (a2) :: (a3) :: ((List.map C40 v4.toList) ++ ([]))) 1 ([b1]) ((a0) :: (b1) :: (a2) :: (a3) :: ((List.map C40 v4.toList) ++ ([]))) := Zh1 (o := 0) (Zly)
theorem at5 {a0 : AV} {a1 : AV} {a2 : AV} {a3 : AV} {v4 : Vector Int 64} : At ((a0) :: (a1) :: (a2) :: (a3) :: ((List.map C40 v4.toList) ++ ([]))) 2 1 ([a2]) := atc (o := 1) (atc (o := 0) (at0 (hdc (n := 0) hd0)))
theorem pt6 {a0 : AV} {a1 : AV} {a2 : AV} {a3 : AV} {v4 : Vector Int 64} {b2 : AV} : Put ((a0) :: (a1) :: (a2) :: (a3) :: ((List.map C40 v4.toList) ++ ([]))) 2 ([b2]) ((a0) :: (a1) :: (b2) :: (a3) :: ((List.map C40 v4.toList) ++ ([]))) := Zh1 (o := 1) (Zh1 (o := 0) (Zly))
theorem at7 {a0 : AV} {a1 : AV} {a2 : AV} {a3 : AV} {v4 : Vector Int 64} : At ((a0) :: (a1) :: (a2) :: (a3) :: ((List.map C40 v4.toList) ++ ([]))) 3 1 ([a3]) := atc (o := 2) (atc (o := 1) (atc (o := 0) (at0 (hdc (n := 0) hd0))))
theorem pt8 {a0 : AV} {a1 : AV} {a2 : AV} {a3 : AV} {v4 : Vector Int 64} {b3 : AV} : Put ((a0) :: (a1) :: (a2) :: (a3) :: ((List.map C40 v4.toList) ++ ([]))) 3 ([b3]) ((a0) :: (a1) :: (a2) :: (b3) :: ((List.map C40 v4.toList) ++ ([]))) := Zh1 (o := 2) (Zh1 (o := 1) (Zh1 (o := 0) (Zly)))
theorem at9 {a0 : AV} {a1 : AV} {a2 : AV} {a3 : AV} {v4 : Vector Int 64} : At ((a0) :: (a1) :: (a2) :: (a3) :: ((List.map C40 v4.toList) ++ ([]))) 4 64 ((List.map C40 v4.toList)) := atc (o := 3) (atc (o := 2) (atc (o := 1) (atc (o := 0) (at0 (hdw arL)))))
theorem Zni {a0 : AV} {a1 : AV} {a2 : AV} {a3 : AV} {v4 : Vector Int 64} {w4 : Vector Int 64} : Put ((a0) :: (a1) :: (a2) :: (a3) :: ((List.map C40 v4.toList) ++ ([]))) 4 ((List.map C40 w4.toList)) ((a0) :: (a1) :: (a2) :: (a3) :: ((List.map C40 w4.toList) ++ ([]))) := Zh1 (o := 3) (Zh1 (o := 2) (Zh1 (o := 1) (Zh1 (o := 0) (Znh (Eq.trans arL (Eq.symm arL))))))
theorem ZcX {a0 : AV} {a1 : AV} {a2 : AV} {a3 : AV} {v4 : Vector Int 64} : ((a0) :: (a1) :: (a2) :: (a3) :: ((List.map C40 v4.toList) ++ ([]))).length = 68 := lnC (n := 67) (lnC (n := 66) (lnC (n := 65) (lnC (n := 64) (lnA (m := 64) (n := 0) arL (lnN)))))
theorem Zfj {x0 : Int} {x1 : Int} {x2 : Int} {x3 : Int} {v4 : Vector Int 64} : ((.int .i64 x0) :: (.int .i64 x1) :: (.int .i64 x2) :: (.int .i64 x3) :: ((List.map C40 v4.toList) ++ ([]))).all datB = true := alC rfl (alC rfl (alC rfl (alC rfl (alA (arD fun _ => rfl) (alN)))))
def R65 (x : api_Kept) : List AV := (.int .i64 x.Memory) :: (.int .i64 x.Sector) :: (.int .i64 x.Sequence) :: (.int .i64 x.Slot) :: ((List.map C40 x.Frame.toList) ++ ([]))
theorem Zl7 {x0 : Int} {x1 : Int} {x2 : Int} {x3 : Int} {v4 : Vector Int 64} : ((.int .i64 x0) :: (.int .i64 x1) :: (.int .i64 x2) :: (.int .i64 x3) :: ((List.map C40 v4.toList) ++ ([]))).all c1B = true := alC rfl (alC rfl (alC rfl (alC rfl (alA (arC fun _ => rfl) (alN)))))
theorem E65 (x : api_Kept) : (R65 x).all c1B = true := Zl7
theorem D65 (x : api_Kept) : (R65 x).length = Tryz.prog.cellsOf 65 ∧ (R65 x).all datB = true := ⟨Eq.trans (b := 68) ZcX tZ_65.symm, Zfj⟩
instance : RowD Tryz.prog 65 R65 := ⟨D65⟩
def FK3 (x : Int) : AV := .int .i64 x
theorem Zms : KeyOK Tryz.prog 3 FK3 kqI := Zln (fun _ => rfl) tI3
def ZeZ (x : api_Kept) : AV := .agg ((.int .i64 x.Memory) :: (.int .i64 x.Sector) :: (.int .i64 x.Sequence) :: (.int .i64 x.Slot) :: ((List.map C40 x.Frame.toList) ++ ([])))
theorem Zng {x0 : Int} {x1 : Int} {x2 : Int} {x3 : Int} {v4 : Vector Int 64} : NS ((.int .i64 x0) :: (.int .i64 x1) :: (.int .i64 x2) :: (.int .i64 x3) :: ((List.map C40 v4.toList) ++ ([]))) := nsC rfl (nsC rfl (nsC rfl (nsC rfl (nsA (nsM fun _ => rfl) (nsR rfl)))))
def R42 (x : Vector Int 64) : List AV := (List.map C40 x.toList)
theorem E42 (x : Vector Int 64) : (R42 x).all c1B = true := (arC fun _ => rfl)
theorem D42 (x : Vector Int 64) : (R42 x).length = Tryz.prog.cellsOf 42 ∧ (R42 x).all datB = true := ⟨Eq.trans (b := 64) arL tZ_42.symm, (arD fun _ => rfl)⟩
instance : RowD Tryz.prog 42 R42 := ⟨D42⟩
theorem Zl5 : ZmH Tryz.prog 42 ((List.replicate 64 ([.i .u16])).flatten) := ⟨by kernel_rfl, by kernel_rfl, by kernel_rfl⟩
def Zlz (x : Int) : List AV := [.int .u32 x]
theorem Z9 {n : Int} {low : Int} {high : Int} {r : Bool} (h : ZT n low high = some r) :
 CSpec Tryz.prog gl0 54 [.int .i64 n, .int .i64 low, .int .i64 high] (.bool r) := by
 unfold ZT at h
 replace h := Z0 h
 refine So Tryz.func54 Y fun w0 A=>Tr<|Ra Y<|Za<|Tr<|Rm Y<|Rm Y<|R2 ZfW Y<|Rm Y<|Rq Y (.guarded ((decide (low ≤ n)) == true) Y Y Y Y fun h => Zc<|ov Y)<|Rq Y (.guarded ((decide (low ≤ n)) == true) Y Y Y Y fun h => Zc<|ov Y)<|Rq Y (.guarded ((decide (low ≤ n)) == true) Y Y Y Y fun h => Zhx (ow Y h)<|ow Y h)<|Rq Y (Zck (ov Y) fun hp=>ow Y<|gT hp)<|Ra Y<|Za<|?_
 obtain rfl := rt h
 exact Zn (ZC Y (.one<|rb Y))
theorem ZP {slots : Int} {r : Int} (h : Xb slots = some r) :
 CSpec Tryz.prog gl0 56 [.int .i64 slots] (.int .i64 r) := by
 unfold Xb at h
 replace h := Z0 h
 refine So Tryz.func56 Y fun w0 A=>Tr<|Ra Y<|Za<|Tr<|Rm Y<|R2 Zea Y<|R2 ZM Y<|Ra Y<|Za<|?_
 obtain rfl := rt h
 exact Zn (ZC Y (.one<|rb Y))
theorem ZhZ {x : Int} {y : Int} {r : Int × Int} (h : ZcP x y = some r) :
 CSpec Tryz.prog gl0 130 [.int .u64 x, .int .u64 y] (.tuple [.int .u64 r.1, .int .u64 r.2]) := by
 unfold ZcP at h
 replace h := Z0 h
 refine So Tryz.func130 Y fun w0 A=>Tr<|Ra Y<|Ra Y<|Za<|K2 0 1 Y<|Tr<|Rm Y<|R2 Zau Y<|Ra Y<|Za<|K3 0 1 6 Y<|Tr<|Rm Y<|bE h fun q h_q h=>Rq Y (ZbB (ov Y) (ov Y) h_q)<|Ra Y<|Za<|K4 0 1 6 7 Y<|Tr<|Rm Y<|R2 Zau Y<|Ra Y<|Za<|K5 0 1 6 7 8 Y<|Tr<|Rm Y<|bE h fun q2 h_q2 h=>Rq Y (ZbB (ov Y) (ov Y) h_q2)<|Ra Y<|Za<|K6 0 1 6 7 8 9 Y<|Tr<|Rm Y<|Rm Y<|R2 Zea Y<|Ra Y<|Za<|K7 0 1 6 7 8 9 10 Y<|Tr<|Rm Y<|Rm Y<|R2 Zea Y<|Rm Y<|bE h fun q3 h_q3 h=>Rq Y (ZbB (ov Y) (ov Y) h_q3)<|R2 ZM Y<|Ra Y<|Za<|K6 0 1 6 7 9 11 Y<|Tr<|Rm Y<|R2 Zau Y<|Ra Y<|Za<|K7 0 1 6 7 9 11 12 Y<|Tr<|Rm Y<|bE h fun q4 h_q4 h=>Rq Y (ZbB (ov Y) (ov Y) h_q4)<|Ra Y<|Za<|K7 0 1 6 7 9 12 13 Y<|Tr<|Rm Y<|Rm Y<|Rm Y<|R2 Zea Y<|R2 ZM Y<|Ra Y<|Za<|K6 0 1 7 9 12 13 Y<|Tr<|Rm Y<|Rm Y<|R2 Zea Y<|Rm Y<|R2 ZM Y<|Rm Y<|bE h fun q5 h_q5 h=>Rq Y (ZbB (ov Y) (ov Y) h_q5)<|R2 ZM Y<|Ra Y<|Za<|K3 0 1 4 Y<|Tr<|Rm Y<|Rm Y<|R2 Zea Y<|Ra Y<|Za<|?_
 obtain rfl := rt h
 exact Zn (ZC Y (.two (rb Y)<|rb Y))
theorem Zjg {x : Int} {y : Int} {r : Int × Int} (h : Zet x y = some r) :
 CSpec Tryz.prog gl0 100 [.int .u64 x, .int .u64 y] (.tuple [.int .u64 r.1, .int .u64 r.2]) := by
 unfold Zet at h
 replace h := Z0 h
 refine So Tryz.func100 Y fun w0 A=>Tr<|Ra Y<|Ra Y<|Za<|Zg<|Zlt<|Zh<|K2 0 1 Y<|Tr<|Rm Y<|Rm Y<|bE h fun y2 h_y2 h=>Rq Y (Zo (ZhZ h_y2)<|.cons (ov Y) (.b Y)<|.cons (ov Y) (.b Y) .nil)<|Rm Y<|Rq Y (Zl (ov Y) Y)<|Rq Y (Zl (ov Y) Y)<|Ra Y<|Ra Y<|Za<|K2 8 9 Y<|Tr<|Rm Y<|Rm Y<|Ra Y<|Ra Y<|Za<|?_
 obtain rfl := rt h
 exact Zn (ZC Y (.two (rb Y)<|rb Y))
theorem Zj {x : List Int} {count : Int} {r : (List Int)} (h : Qs x count = some r) :
 GSpec Tryz.prog gl0 55 [.sl 5 (List.map R5 x), .int .i64 count] [] (.own 0 r.length) [some ⟨5, List.map R5 r⟩] := by
 unfold Qs at h
 replace h := Z0 h
 refine QF (by kernel_rfl) Tryz.func55 Y Y<|?_
 intro w0 A W φ0
 refine Tr<|Ra Y<|Za<|Zg<|K2 0 1 Y<|Tr<|Rm Y<|R2 ZO Y<|Za<|K3 0 1 10 Y<|If h Y (fun h=>?_) fun h=>?_
 ·
  exact (Zi8 h).elim
 ·
  refine Zh<|K2 0 1 Y<|Tr<|Rm Y<|Rl tZ_5 Z5 Y<|Rq Y (Z7 (ov Y) tI3 Zlb Y)<|Rm Y<|Rq Y (Z7 (ov Y) tI3 Zlb Y)<|bE h fun y h_y h=>Rq Y (Zo (Zjg h_y)<|.cons (ov Y) (.b Y)<|.cons (ov Y) (.b Y) .nil)<|Rm Y<|Rq Y (Zl (ov Y) Y)<|Rq Y (Zl (ov Y) Y)<|Ra Y<|Ra Y<|Za<|Zg<|K3 0 5 6 Y<|Tr<|Rm Y<|R2 ZcN Y<|Rm Y<|Rq Y (.guarded ((decide (0 < y.1)) == false) Y Y Y Y fun h => Zc<|ov Y)<|Rq Y (.guarded ((decide (0 < y.1)) == false) Y Y Y Y fun h => ZcN (ow Y h)<|ov Y)<|Rq Y (ZdB (ov Y) fun hp=>ow Y<|gF hp)<|Za<|K3 0 6 26 Y<|If h Y (fun h=>?_) fun h=>?_
  ·
   exact (Zi8 h).elim
  ·
   refine Zh<|K2 0 6 Y<|Tr<|Rm Y<|Rq Y (Z7 (ov Y) Zlb tI3 Y)<|bE h fun l h_l h=>Rx Y (Zaj [none] (r := 0) (f := R5) (z0 := 0) Y (ov Y) (ov Y) Z5 Y tZ5 Y Y h_l)<|Ra Y<|Za<|K2 0 7 Y<|Tr<|Rm Y<|Rm Y<|Rx Y (Zlo (f := R5) (g := C5) (xs := l) (ys := x) (ov Y) (Qv (ov Y) tZ_5) Y Y (fun _=>Y) (fun _=>Y) (fun _=>Y) Z5)<|Ra Y<|Za<|I1 (fun newslice=>⟨[(7, .own 0 newslice.length)], [some ⟨5, List.map R5 newslice⟩]⟩) h (fun h=>?_) fun newslice h=>?_
   ·
    refine Ze<|?_
    obtain ⟨r1, hl1, ho1⟩ := QI h
    refine L2 (fun newslice2 n=>⟨[(7, .own 0 newslice2.length), (8, .int .i64 n)], [some ⟨5, List.map R5 newslice2⟩]⟩) hl1 (ES [some 0]<|sr 7 Y (ZfY (Eq.symm<|(ZfG ..).trans Y) Y)<|sd 8 Y Y sn) fun n1 newslice2 n h=>?_
    unfold Qy at h
    refine Zg<|Tr<|Rm Y<|Rm Y<|Rq Y (ZeD (ov Y) Y Y Z5)<|R2 ZO Y<|Za<|K3 7 8 37 Y<|If h Y (fun h=>?_) fun h=>?_
    ·
     exact Zh<|Ze<|K2 7 8 Y<|Qp (cw := md0) (by kernel_rfl)<|D1 1 Zc Y<|D1 2 Zc Y<|bE h fun u h_u h=>Dq 3 Y (Zl3 (ov Y) Y Y Z5 (oi<|ov Y) on h_u)<|D1 4 Zc Y<|D1 5 Zc Y<|bE h fun u2 h_u2 h=>Dq 6 Y (Zl3 (ov Y) Y Y Z5 on (oi<|ov Y) h_u2)<|Z6 0 _ Y (by kernel_rfl) Y Y (fun hp'=>Zc<|ov Y)<|Do 7 Y (ZlO (g := C5) (ov Y) (ov Y) Y Y (fun _=>Y) (fun _=>Y) (fun _=>Y) Z5 (ZiA h_u)<|ZiA h_u2)<|D2 8 ZM Y<|D1 9 Z8 Y<|Dd<|⟨_, h, ES [some 0]<|sr 7 Y (ZfY (Eq.symm<|(ZgY (ZiA h_u) (ZiA h_u2)).trans Y) Y)<|sd 8 Y Y sn⟩
    ·
     refine ZE<|?_
     replace h := lx h ▸ ho1
     exact ⟨_, h, ES [some 0]⟩
   ·
    refine Tr<|Rm Y<|Ra Y<|Za<|?_
    obtain rfl := rt h
    exact Zn<|Zbd [some 0] Y (.cons (.tmp Y) .nil) (.cons Y (roM D5) .nil) Y Y<|.own _ Y
theorem Zd4 {n : Int} {low : Int} {high : Int} {r : Bool} (h : JQ n low high = some r) :
 CSpec Tryz.prog gl0 57 [.int .i64 n, .int .i64 low, .int .i64 high] (.bool r) := by
 unfold JQ at h
 replace h := Z0 h
 refine So Tryz.func57 Y fun w0 A=>Tr<|Ra Y<|Za<|Tr<|Rm Y<|Rm Y<|R2 ZO Y<|Rm Y<|Rq Y (.guarded ((decide (n < low)) == false) Y Y Y Y fun h => Zc<|ov Y)<|Rq Y (.guarded ((decide (n < low)) == false) Y Y Y Y fun h => Zc<|ov Y)<|Rq Y (.guarded ((decide (n < low)) == false) Y Y Y Y fun h => ZcN (ow Y h)<|ow Y h)<|Rq Y (ZdB (ov Y) fun hp=>ow Y<|gF hp)<|Ra Y<|Za<|?_
 obtain rfl := rt h
 exact Zn (ZC Y (.one<|rb Y))
theorem Zdn {s1 : List Int} {s2 : List Int} {r : Bool} (h : QP s1 s2 = some r) :
 CSpec Tryz.prog gl0 38 [.sl 3 (List.map R3 s1), .sl 3 (List.map R3 s2)] (.bool r) := by
 unfold QP at h
 replace h := Z0 h
 refine So Tryz.func38 Y fun w0 A=>Tr<|Ra Y<|Za<|Zg<|K2 0 1 Y<|Tr<|Rm Y<|Rl tZ_3 Q3 Y<|Rm Y<|Rl tZ_3 Q3 Y<|R2 Xp Y<|Za<|K3 0 1 10 Y<|If h Y (fun h=>?_) fun h=>?_
 ·
  refine K0<|Tr<|Ra Y<|Za<|?_
  obtain rfl := rt h
  exact Zn (ZC Y (.one<|rb Y))
 ·
  refine Zh<|J0 (fun j => (.inr j)) ⟨[], []⟩ h (fun h=>?_) fun h=>?_
  ·
   refine K2 0 1 Y<|Tr<|Rm Y<|Rl tZ_3 Q3 Y<|Rm Y<|Za<|Ze<|?_
   obtain ⟨r1, hl1, ho1⟩ := QI h
   refine L1 (fun i=>⟨[(0, .sl 3 (List.map R3 s1)), (1, .sl 3 (List.map R3 s2)), (12, .int .i64 (s1.length : Int)), (13, .int .i64 i)], []⟩) hl1 (ES []) fun n1 i h=>?_
   unfold QY at h
   refine Tr<|R2 ZO Y<|Za<|Zg<|If h Y (fun h=>?_) fun h=>?_
   ·
    refine Zh<|Zg<|Ze<|K4 0 1 12 13 Y<|Tr<|Rm Y<|Ra Y<|Za<|Zg<|K5 0 1 5 12 13 Y<|Qp (cw := md0) (by kernel_rfl)<|D1 0 Zc Y<|D1 1 Zc Y<|bE h fun x h_x h=>Dq 2 Y (ZQ (ov Y) (ov Y) Q3 h_x)<|Dq 3 Y (Zd (ov Y) tS3 Y)<|D1 4 Zc Y<|D1 5 Zc Y<|bE h fun x2 h_x2 h=>Dq 6 Y (ZQ (ov Y) (ov Y) Q3 h_x2)<|Dq 7 Y (Zd (ov Y) tS3 Y)<|D2 8 Xp Y<|Dd<|K5 0 1 12 13 24 Y<|If h Y (fun h=>?_) fun h=>?_
    ·
     refine K0<|Tr<|Ra Y<|Za<|?_
     replace h := lx h ▸ ho1
     obtain rfl := rt h
     exact Zn (ZC Y (.one<|rb Y))
    ·
     exact Zh<|K4 0 1 12 13 Y<|Zt<|R2 ZM Y<|Rm Y<|Za<|⟨_, h, ES []⟩
   ·
    refine ZE<|?_
    replace h := lx h ▸ ho1
    exact ⟨(), h, ES []⟩
  ·
   replace h := elr h
   replace h := t0i h
   refine Tr<|Ra Y<|Za<|?_
   obtain rfl := rt h
   exact Zn (ZC Y (.one<|rb Y))
theorem Zjk {n : Int} {r : Bool} (h : Zez n = some r) :
 CSpec Tryz.prog gl0 151 [.int .i64 n] (.bool r) := by
 unfold Zez at h
 replace h := Z0 h
 refine So Tryz.func151 Y fun w0 A=>Tr<|Ra Y<|Za<|K1 0 Y<|Tr<|Ra Y<|Za<|I1 (fun ones=>⟨[(3, .int .i64 ones)], []⟩) h (fun h=>?_) fun ones h=>?_
 ·
  refine Ze<|?_
  obtain ⟨r1, hl1, ho1⟩ := QI h
  refine L2 (fun n2 ones2=>⟨[(0, .int .i64 n2), (3, .int .i64 ones2)], []⟩) hl1 (ES []) fun n1 n2 ones2 h=>?_
  unfold Zc3 at h
  refine Zg<|Tr<|Rm Y<|R2 ZcN Y<|Za<|K3 0 3 5 Y<|If h Y (fun h=>?_) fun h=>?_
  ·
   exact Zh<|Zg<|Ze<|K2 0 3 Y<|Zt<|Rm Y<|Rm Y<|bE h fun q h_q h=>Rq Y (XY (ov Y) (ov Y) h_q)<|R2 ZM Y<|Ra Y<|Za<|K2 0 3 Y<|Zt<|Rm Y<|bE h fun q2 h_q2 h=>Rq Y (Zcc (ov Y) (ov Y) h_q2)<|Ra Y<|Za<|⟨_, h, ES []⟩
  ·
   refine ZE<|?_
   replace h := lx h ▸ ho1
   exact ⟨_, h, ES []⟩
 ·
  refine Tr<|Rm Y<|bE h fun q3 h_q3 h=>Rq Y (XY (ov Y) (ov Y) h_q3)<|R2 ZaJ Y<|Ra Y<|Za<|?_
  obtain rfl := rt h
  exact Zn (ZC Y (.one<|rb Y))
end Go.Proofs.YtnlmjeleocelgaaGreatDoor
