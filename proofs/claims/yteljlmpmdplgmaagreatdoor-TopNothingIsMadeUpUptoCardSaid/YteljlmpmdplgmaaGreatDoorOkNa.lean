/- A text of the proof: a verified executor of the program form, or the contracts of the functions that the law reaches. -/
import Derived.Test.YteljlmpmdplgmaaGreatDoorVS
import Derived.Test.YteljlmpmdplgmaaGreatDoorPA
import Derived.Test.YteljlmpmdplgmaaGreatDoorShT
import Derived.Test.YteljlmpmdplgmaaGreatDoorProg
import Derived.Test.YteljlmpmdplgmaaGreatDoorLayN
set_option linter.all false
namespace Go.Proofs.YteljlmpmdplgmaaGreatDoor
open Go Go.Vx
set_option maxRecDepth 10000
set_option maxHeartbeats 1000000
set_option linter.unusedVariables false
theorem tZ_28 : Tryz.prog.cellsOf 28 = 64 := by kernel_rfl
instance : SzD Tryz.prog 28 64 := ⟨tZ_28⟩
theorem tZ_5 : Tryz.prog.cellsOf 5 = 1 := by kernel_rfl
instance : SzD Tryz.prog 5 1 := ⟨tZ_5⟩
theorem tZ_25 : Tryz.prog.cellsOf 25 = 1 := by kernel_rfl
instance : SzD Tryz.prog 25 1 := ⟨tZ_25⟩
theorem tZ_3 : Tryz.prog.cellsOf 3 = 1 := by kernel_rfl
instance : SzD Tryz.prog 3 1 := ⟨tZ_3⟩
theorem QQ : tSl Tryz.prog 54 3 1 8 = true := by kernel_rfl
theorem tZ3 : XZ Tryz.prog 3 = some [.int .i64 0] := by kernel_rfl
theorem tS3 : tScal Tryz.prog 3 = true := by kernel_rfl
theorem ZbV : XZ Tryz.prog 28 = some [.int .u16 0, .int .u16 0, .int .u16 0, .int .u16 0, .int .u16 0, .int .u16 0, .int .u16 0, .int .u16 0, .int .u16 0, .int .u16 0, .int .u16 0, .int .u16 0, .int .u16 0, .int .u16 0, .int .u16 0, .int .u16 0, .int .u16 0, .int .u16 0, .int .u16 0, .int .u16 0, .int .u16 0, .int .u16 0, .int .u16 0, .int .u16 0, .int .u16 0, .int .u16 0, .int .u16 0, .int .u16 0, .int .u16 0, .int .u16 0, .int .u16 0, .int .u16 0, .int .u16 0, .int .u16 0, .int .u16 0, .int .u16 0, .int .u16 0, .int .u16 0, .int .u16 0, .int .u16 0, .int .u16 0, .int .u16 0, .int .u16 0, .int .u16 0, .int .u16 0, .int .u16 0, .int .u16 0, .int .u16 0, .int .u16 0, .int .u16 0, .int .u16 0, .int .u16 0, .int .u16 0, .int .u16 0, .int .u16 0, .int .u16 0, .int .u16 0, .int .u16 0, .int .u16 0, .int .u16 0, .int .u16 0, .int .u16 0, .int .u16 0, .int .u16 0] := by kernel_rfl
theorem QI : tArr Tryz.prog 28 64 26 1 = true := by kernel_rfl
theorem Z7 : tAgg Tryz.prog 28 64 = true := by kernel_rfl
theorem tI3 : tInt Tryz.prog 3 .i64 = true := by kernel_rfl
theorem Zct : tInt Tryz.prog 26 .u16 = true := by kernel_rfl
theorem ZnE : tStr Tryz.prog 9 = true := by kernel_rfl
theorem tI5 : tInt Tryz.prog 5 .u8 = true := by kernel_rfl
theorem QO : tScal Tryz.prog 26 = true := by kernel_rfl
theorem Zku : tArr Tryz.prog 101 4 26 1 = true := by kernel_rfl
theorem tB4 : (match Tryz.prog.underlying 4 with | some .bool => true | _ => false) = true := by kernel_rfl
theorem Zld : tSl Tryz.prog 22 28 64 128 = true := by kernel_rfl
theorem Zjj : ZbK Tryz.prog 75 = some [(0, 1), (1, 1)] := by kernel_rfl
theorem Zju : Zd4 Tryz.prog 75 = true := by kernel_rfl
theorem Zmw : XZ Tryz.prog 75 = some [.int .i64 0, .int .i64 0] := by kernel_rfl
theorem Zgm : tSl Tryz.prog 57 75 2 16 = true := by kernel_rfl
theorem tZ_75 : Tryz.prog.cellsOf 75 = 2 := by kernel_rfl
instance : SzD Tryz.prog 75 2 := ⟨tZ_75⟩
theorem ZnR : tArr Tryz.prog 103 4 3 1 = true := by kernel_rfl
theorem ZoR : XZ Tryz.prog 103 = some [.int .i64 0, .int .i64 0, .int .i64 0, .int .i64 0] := by kernel_rfl
theorem Zni : tSl Tryz.prog 23 25 1 24 = true := by kernel_rfl
theorem ZcV : tScal Tryz.prog 25 = true := by kernel_rfl
theorem Xz : tSl Tryz.prog 25 5 1 1 = true := by kernel_rfl
theorem Zhx : ZbK Tryz.prog 35 = some [(0, 1), (1, 1)] := by kernel_rfl
theorem Zhy : Zd4 Tryz.prog 35 = true := by kernel_rfl
theorem Zey : XZ Tryz.prog 35 = some [.slice none 0 0, .bool false] := by kernel_rfl
theorem tZ_35 : Tryz.prog.cellsOf 35 = 2 := by kernel_rfl
instance : SzD Tryz.prog 35 2 := ⟨tZ_35⟩
theorem XL : tAgg Tryz.prog 35 2 = true := by kernel_rfl
theorem Zbm : tFld Tryz.prog 35 0 0 = true := by kernel_rfl
theorem ZgP : tFld Tryz.prog 35 1 1 = true := by kernel_rfl
theorem tS4 : tScal Tryz.prog 4 = true := by kernel_rfl
theorem tS5 : tScal Tryz.prog 5 = true := by kernel_rfl
theorem ZkC : XZ Tryz.prog 80 = some [.bool false, .bool false, .bool false, .bool false, .bool false, .bool false, .bool false, .bool false, .bool false, .bool false, .bool false, .bool false, .bool false, .bool false, .bool false, .bool false, .bool false, .bool false, .bool false, .bool false, .bool false, .bool false, .bool false, .bool false, .bool false, .bool false, .bool false, .bool false, .bool false, .bool false, .bool false, .bool false, .bool false, .bool false, .bool false, .bool false, .bool false, .bool false, .bool false, .bool false, .bool false, .bool false, .bool false, .bool false, .bool false, .bool false, .bool false, .bool false, .bool false, .bool false, .bool false, .bool false, .bool false, .bool false, .bool false, .bool false, .bool false, .bool false, .bool false, .bool false, .bool false, .bool false, .bool false, .bool false] := by kernel_rfl
theorem tZ_80 : Tryz.prog.cellsOf 80 = 64 := by kernel_rfl
instance : SzD Tryz.prog 80 64 := ⟨tZ_80⟩
theorem ZjR : tArr Tryz.prog 80 64 4 1 = true := by kernel_rfl
theorem ZdP : tAgg Tryz.prog 80 64 = true := by kernel_rfl
theorem ZnD : ZbK Tryz.prog 51 = some [(0, 1), (1, 64)] := by kernel_rfl
theorem ZnN : Zd4 Tryz.prog 51 = true := by kernel_rfl
theorem ZjB : XZ Tryz.prog 51 = some ([.int .i64 0] ++ (List.flatten (List.replicate 64 [.int .u16 0]))) := by kernel_rfl
theorem Je : tSl Tryz.prog 36 51 65 136 = true := by kernel_rfl
theorem tZ_51 : Tryz.prog.cellsOf 51 = 65 := by kernel_rfl
instance : SzD Tryz.prog 51 65 := ⟨tZ_51⟩
theorem tZ5 : XZ Tryz.prog 5 = some [.int .u8 0] := by kernel_rfl
theorem ZiA : tSl Tryz.prog 46 35 2 32 = true := by kernel_rfl
theorem tZ_36 : Tryz.prog.cellsOf 36 = 1 := by kernel_rfl
instance : SzD Tryz.prog 36 1 := ⟨tZ_36⟩
theorem ZnO : tArr Tryz.prog 152 192 5 1 = true := by kernel_rfl
theorem ZoU : tAgg Tryz.prog 152 192 = true := by kernel_rfl
theorem tZ_152 : Tryz.prog.cellsOf 152 = 192 := by kernel_rfl
instance : SzD Tryz.prog 152 192 := ⟨tZ_152⟩
theorem Zpp : XZ Tryz.prog 36 = some [.slice none 0 0] := by kernel_rfl
theorem Zep : tScal Tryz.prog 36 = true := by kernel_rfl
theorem Zek : tAgg Tryz.prog 51 65 = true := by kernel_rfl
theorem QL : tFld Tryz.prog 51 0 0 = true := by kernel_rfl
theorem ZH : tMap Tryz.prog 85 3 3 = true := by kernel_rfl
theorem ZoJ : ZbK Tryz.prog 87 = some [(0, 1), (1, 1), (2, 1), (3, 1)] := by kernel_rfl
theorem ZoQ : Zd4 Tryz.prog 87 = true := by kernel_rfl
theorem Zpu : XZ Tryz.prog 87 = some [.slice none 0 0, .slice none 0 0, .slice none 0 0, .map none] := by kernel_rfl
theorem Zpz : tAgg Tryz.prog 87 4 = true := by kernel_rfl
theorem Zbq : tFld Tryz.prog 87 1 1 = true := by kernel_rfl
theorem Xj : Zi1 Tryz.prog 3 = some (.int .i64 0) := by kernel_rfl
theorem ZjN : tFld Tryz.prog 51 1 1 = true := by kernel_rfl
theorem Zaz : tFld Tryz.prog 87 3 3 = true := by kernel_rfl
theorem Zbf : tScal Tryz.prog 85 = true := by kernel_rfl
theorem Ql : tFld Tryz.prog 87 2 2 = true := by kernel_rfl
theorem QZ : tScal Tryz.prog 54 = true := by kernel_rfl
theorem tZ_87 : Tryz.prog.cellsOf 87 = 4 := by kernel_rfl
instance : SzD Tryz.prog 87 4 := ⟨tZ_87⟩
theorem tZ_85 : Tryz.prog.cellsOf 85 = 1 := by kernel_rfl
instance : SzD Tryz.prog 85 1 := ⟨tZ_85⟩
theorem Zpb : XZ Tryz.prog 47 = some [.int .i64 0, .int .i64 0, .int .i64 0, .int .i64 0, .int .i64 0, .int .i64 0, .int .i64 0, .int .i64 0, .int .i64 0, .int .i64 0, .int .i64 0, .int .i64 0, .int .i64 0, .int .i64 0, .int .i64 0, .int .i64 0, .int .i64 0, .int .i64 0, .int .i64 0, .int .i64 0, .int .i64 0, .int .i64 0, .int .i64 0, .int .i64 0, .int .i64 0, .int .i64 0, .int .i64 0, .int .i64 0, .int .i64 0, .int .i64 0, .int .i64 0, .int .i64 0, .int .i64 0, .int .i64 0, .int .i64 0, .int .i64 0, .int .i64 0, .int .i64 0, .int .i64 0, .int .i64 0, .int .i64 0, .int .i64 0, .int .i64 0, .int .i64 0, .int .i64 0, .int .i64 0, .int .i64 0, .int .i64 0, .int .i64 0, .int .i64 0, .int .i64 0, .int .i64 0, .int .i64 0, .int .i64 0, .int .i64 0, .int .i64 0, .int .i64 0, .int .i64 0, .int .i64 0, .int .i64 0, .int .i64 0, .int .i64 0, .int .i64 0, .int .i64 0] := by kernel_rfl
theorem tZ_47 : Tryz.prog.cellsOf 47 = 64 := by kernel_rfl
instance : SzD Tryz.prog 47 64 := ⟨tZ_47⟩
theorem Zde : tArr Tryz.prog 47 64 3 1 = true := by kernel_rfl
theorem ZiJ : tAgg Tryz.prog 47 64 = true := by kernel_rfl
theorem ZiQ : ZbK Tryz.prog 49 = some [(0, 1), (1, 64), (65, 64), (129, 1), (130, 1), (131, 1)] := by kernel_rfl
theorem Zjn : Zd4 Tryz.prog 49 = true := by kernel_rfl
theorem ZdJ : XZ Tryz.prog 49 = some ([.int .i64 0] ++ (List.flatten (List.replicate 64 [.int .u16 0])) ++ (List.flatten (List.replicate 64 [.int .i64 0])) ++ [.bool false, .int .i64 0, .bool false]) := by kernel_rfl
theorem Xo : tSl Tryz.prog 43 49 132 672 = true := by kernel_rfl
theorem tZ_49 : Tryz.prog.cellsOf 49 = 132 := by kernel_rfl
instance : SzD Tryz.prog 49 132 := ⟨tZ_49⟩
theorem Zmv : tFld Tryz.prog 87 0 0 = true := by kernel_rfl
theorem Zpm : tInt Tryz.prog 71 .u64 = true := by kernel_rfl
theorem Xk : tAgg Tryz.prog 49 132 = true := by kernel_rfl
theorem X9 : tFld Tryz.prog 49 1 1 = true := by kernel_rfl
theorem Jd : tFld Tryz.prog 49 2 65 = true := by kernel_rfl
theorem Jf : tMap Tryz.prog 93 3 43 = true := by kernel_rfl
theorem Zdt : Zi1 Tryz.prog 43 = some (.slice none 0 0) := by kernel_rfl
theorem XN : tFld Tryz.prog 49 0 0 = true := by kernel_rfl
theorem tZ_93 : Tryz.prog.cellsOf 93 = 1 := by kernel_rfl
instance : SzD Tryz.prog 93 1 := ⟨tZ_93⟩
theorem ZiM : (match Tryz.prog.underlying 43 with | some (.slice _) => true | _ => false) = true := by kernel_rfl
theorem Zdf : tFld Tryz.prog 49 4 130 = true := by kernel_rfl
theorem Zlp : tFld Tryz.prog 49 5 131 = true := by kernel_rfl
theorem Zdq : tFld Tryz.prog 49 3 129 = true := by kernel_rfl
def gl0 : Gl := ⟨1, [(0, (gv_frame_syncs.toList.map fun z => Value.int .u16 z).toArray)]⟩
def C26 (x : Int) : AV := .int .u16 x
def R28 (x : Vector Int 64) : List AV := (List.map C26 x.toList)
def R5 (x : Int) : List AV := [.int .u8 x]
def R25 (x : List Int) : List AV := [.sl 5 (List.map R5 x)]
def R3 (x : Int) : List AV := [.int .i64 x]
theorem D3 (x : Int) : (R3 x).length = Tryz.prog.cellsOf 3 ∧ (R3 x).all datB = true := ⟨tZ_3.symm, rfl⟩
instance : RowD Tryz.prog 3 R3 := ⟨D3⟩
def R75 (x : api_Flaw) : List AV := [.int .i64 x.Word, .int .i64 x.Kind]
theorem D75 (x : api_Flaw) : (R75 x).length = Tryz.prog.cellsOf 75 ∧ (R75 x).all datB = true := ⟨tZ_75.symm, rfl⟩
instance : RowD Tryz.prog 75 R75 := ⟨D75⟩
def C3 (x : Int) : AV := .int .i64 x
theorem D5 (x : Int) : (R5 x).length = Tryz.prog.cellsOf 5 ∧ (R5 x).all datB = true := ⟨tZ_5.symm, rfl⟩
instance : RowD Tryz.prog 5 R5 := ⟨D5⟩
def C4 (x : Bool) : AV := .bool x
theorem QK {a0 : AV} {v1 : Vector Int 64} : At ((a0) :: ((List.map C26 v1.toList) ++ ([]))) 0 1 ([a0]) := at0 (hdc (n := 0) hd0)
theorem pt1 {a0 : AV} {v1 : Vector Int 64} {b0 : AV} : Put ((a0) :: ((List.map C26 v1.toList) ++ ([]))) 0 ([b0]) ((b0) :: ((List.map C26 v1.toList) ++ ([]))) := Zle
theorem at2 {a0 : AV} {v1 : Vector Int 64} : At ((a0) :: ((List.map C26 v1.toList) ++ ([]))) 1 64 ((List.map C26 v1.toList)) := atc (o := 0) (at0 (hdw arL))
theorem pt3 {a0 : AV} {v1 : Vector Int 64} {w1 : Vector Int 64} : Put ((a0) :: ((List.map C26 v1.toList) ++ ([]))) 1 ((List.map C26 w1.toList)) ((a0) :: ((List.map C26 w1.toList) ++ ([]))) := Zij (o := 0) (Zog (Eq.trans arL (Eq.symm arL)))
theorem ln4 {a0 : AV} {v1 : Vector Int 64} : ((a0) :: ((List.map C26 v1.toList) ++ ([]))).length = 65 := lnC (n := 64) (lnA (m := 64) (n := 0) arL (lnN))
theorem al5 {x0 : Int} {v1 : Vector Int 64} : ((.int .i64 x0) :: ((List.map C26 v1.toList) ++ ([]))).all datB = true := alC rfl (alA (arD fun _ => rfl) (alN))
def R51 (x : api_Found) : List AV := (.int .i64 x.At) :: ((List.map C26 x.Frame.toList) ++ ([]))
theorem al6 {x0 : Int} {v1 : Vector Int 64} : ((.int .i64 x0) :: ((List.map C26 v1.toList) ++ ([]))).all c1B = true := alC rfl (alA (arC fun _ => rfl) (alN))
theorem E51 (x : api_Found) : (R51 x).all c1B = true := al6
theorem D51 (x : api_Found) : (R51 x).length = Tryz.prog.cellsOf 51 ∧ (R51 x).all datB = true := ⟨Eq.trans (b := 65) ln4 tZ_51.symm, al5⟩
instance : RowD Tryz.prog 51 R51 := ⟨D51⟩
def R35 (x : api_Piece) : List AV := [.sl 5 (List.map R5 x.Bytes), .bool x.Half]
def C5 (x : Int) : AV := .int .u8 x
theorem ns7 {x0 : Int} {v1 : Vector Int 64} : NS ((.int .i64 x0) :: ((List.map C26 v1.toList) ++ ([]))) := nsC rfl (nsA (nsM fun _ => rfl) (nsR rfl))
def FK3 (x : Int) : AV := .int .i64 x
theorem Qn : KeyOK Tryz.prog 3 FK3 kqI := Zng (fun _ => rfl) tI3
def FV3 (x : Int) : AV := .int .i64 x
theorem at8 {a0 : AV} {v1 : Vector Int 64} {v2 : Vector Int 64} {a3 : AV} {a4 : AV} {a5 : AV} : At ((a0) :: ((List.map C26 v1.toList) ++ (((List.map C3 v2.toList) ++ ((a3) :: (a4) :: (a5) :: []))))) 0 1 ([a0]) := at0 (hdc (n := 0) hd0)
theorem pt9 {a0 : AV} {v1 : Vector Int 64} {v2 : Vector Int 64} {a3 : AV} {a4 : AV} {a5 : AV} {b0 : AV} : Put ((a0) :: ((List.map C26 v1.toList) ++ (((List.map C3 v2.toList) ++ ((a3) :: (a4) :: (a5) :: []))))) 0 ([b0]) ((b0) :: ((List.map C26 v1.toList) ++ (((List.map C3 v2.toList) ++ ((a3) :: (a4) :: (a5) :: []))))) := Zle
theorem Zbo {a0 : AV} {v1 : Vector Int 64} {v2 : Vector Int 64} {a3 : AV} {a4 : AV} {a5 : AV} : At ((a0) :: ((List.map C26 v1.toList) ++ (((List.map C3 v2.toList) ++ ((a3) :: (a4) :: (a5) :: []))))) 1 64 ((List.map C26 v1.toList)) := atc (o := 0) (at0 (hdw arL))
theorem Zhs {a0 : AV} {v1 : Vector Int 64} {v2 : Vector Int 64} {a3 : AV} {a4 : AV} {a5 : AV} {w1 : Vector Int 64} : Put ((a0) :: ((List.map C26 v1.toList) ++ (((List.map C3 v2.toList) ++ ((a3) :: (a4) :: (a5) :: []))))) 1 ((List.map C26 w1.toList)) ((a0) :: ((List.map C26 w1.toList) ++ (((List.map C3 v2.toList) ++ ((a3) :: (a4) :: (a5) :: []))))) := Zij (o := 0) (Zog (Eq.trans arL (Eq.symm arL)))
theorem Zai {a0 : AV} {v1 : Vector Int 64} {v2 : Vector Int 64} {a3 : AV} {a4 : AV} {a5 : AV} : At ((a0) :: ((List.map C26 v1.toList) ++ (((List.map C3 v2.toList) ++ ((a3) :: (a4) :: (a5) :: []))))) 65 64 ((List.map C3 v2.toList)) := atc (o := 64) (ata (m := 64) (o := 0) arL (at0 (hdw arL)))
theorem Zgj {a0 : AV} {v1 : Vector Int 64} {v2 : Vector Int 64} {a3 : AV} {a4 : AV} {a5 : AV} {w2 : Vector Int 64} : Put ((a0) :: ((List.map C26 v1.toList) ++ (((List.map C3 v2.toList) ++ ((a3) :: (a4) :: (a5) :: []))))) 65 ((List.map C3 w2.toList)) ((a0) :: ((List.map C26 v1.toList) ++ (((List.map C3 w2.toList) ++ ((a3) :: (a4) :: (a5) :: []))))) := Zij (o := 64) (ZjK (m := 64) (o := 0) arL (Zog (Eq.trans arL (Eq.symm arL))))
theorem Zgk {a0 : AV} {v1 : Vector Int 64} {v2 : Vector Int 64} {a3 : AV} {a4 : AV} {a5 : AV} : At ((a0) :: ((List.map C26 v1.toList) ++ (((List.map C3 v2.toList) ++ ((a3) :: (a4) :: (a5) :: []))))) 129 1 ([a3]) := atc (o := 128) (ata (m := 64) (o := 64) arL (ata (m := 64) (o := 0) arL (at0 (hdc (n := 0) hd0))))
theorem ZkM {a0 : AV} {v1 : Vector Int 64} {v2 : Vector Int 64} {a3 : AV} {a4 : AV} {a5 : AV} {b3 : AV} : Put ((a0) :: ((List.map C26 v1.toList) ++ (((List.map C3 v2.toList) ++ ((a3) :: (a4) :: (a5) :: []))))) 129 ([b3]) ((a0) :: ((List.map C26 v1.toList) ++ (((List.map C3 v2.toList) ++ ((b3) :: (a4) :: (a5) :: []))))) := Zij (o := 128) (ZjK (m := 64) (o := 64) arL (ZjK (m := 64) (o := 0) arL (Zle)))
theorem ZgM {a0 : AV} {v1 : Vector Int 64} {v2 : Vector Int 64} {a3 : AV} {a4 : AV} {a5 : AV} : At ((a0) :: ((List.map C26 v1.toList) ++ (((List.map C3 v2.toList) ++ ((a3) :: (a4) :: (a5) :: []))))) 130 1 ([a4]) := atc (o := 129) (ata (m := 64) (o := 65) arL (ata (m := 64) (o := 1) arL (atc (o := 0) (at0 (hdc (n := 0) hd0)))))
theorem Zk8 {a0 : AV} {v1 : Vector Int 64} {v2 : Vector Int 64} {a3 : AV} {a4 : AV} {a5 : AV} {b4 : AV} : Put ((a0) :: ((List.map C26 v1.toList) ++ (((List.map C3 v2.toList) ++ ((a3) :: (a4) :: (a5) :: []))))) 130 ([b4]) ((a0) :: ((List.map C26 v1.toList) ++ (((List.map C3 v2.toList) ++ ((a3) :: (b4) :: (a5) :: []))))) := Zij (o := 129) (ZjK (m := 64) (o := 65) arL (ZjK (m := 64) (o := 1) arL (Zij (o := 0) (Zle))))
theorem Zy {a0 : AV} {v1 : Vector Int 64} {v2 : Vector Int 64} {a3 : AV} {a4 : AV} {a5 : AV} : ((a0) :: ((List.map C26 v1.toList) ++ (((List.map C3 v2.toList) ++ ((a3) :: (a4) :: (a5) :: []))))).length = 132 := lnC (n := 131) (lnA (m := 64) (n := 67) arL (lnA (m := 64) (n := 3) arL (lnC (n := 2) (lnC (n := 1) (lnC (n := 0) (lnN))))))
theorem Jl {x0 : Int} {v1 : Vector Int 64} {v2 : Vector Int 64} {x3 : Bool} {x4 : Int} {x5 : Bool} : ((.int .i64 x0) :: ((List.map C26 v1.toList) ++ (((List.map C3 v2.toList) ++ ((.bool x3) :: (.int .i64 x4) :: (.bool x5) :: []))))).all datB = true := alC rfl (alA (arD fun _ => rfl) (alA (arD fun _ => rfl) (alC rfl (alC rfl (alC rfl (alN))))))
def R49 (x : api_Rest) : List AV := (.int .i64 x.Number) :: ((List.map C26 x.Frame.toList) ++ (((List.map C3 x.States.toList) ++ ((.bool x.Sound) :: (.int .i64 x.Copies) :: (.bool x.Conflict) :: []))))
theorem Zc3 {x0 : Int} {v1 : Vector Int 64} {v2 : Vector Int 64} {x3 : Bool} {x4 : Int} {x5 : Bool} : ((.int .i64 x0) :: ((List.map C26 v1.toList) ++ (((List.map C3 v2.toList) ++ ((.bool x3) :: (.int .i64 x4) :: (.bool x5) :: []))))).all c1B = true := alC rfl (alA (arC fun _ => rfl) (alA (arC fun _ => rfl) (alC rfl (alC rfl (alC rfl (alN))))))
theorem ZbN {x0 : Int} {v1 : Vector Int 64} {v2 : Vector Int 64} {x3 : Bool} {x4 : Int} {x5 : Bool} : NS ((.int .i64 x0) :: ((List.map C26 v1.toList) ++ (((List.map C3 v2.toList) ++ ((.bool x3) :: (.int .i64 x4) :: (.bool x5) :: []))))) := nsC rfl (nsA (nsM fun _ => rfl) (nsA (nsM fun _ => rfl) (nsC rfl (nsC rfl (nsC rfl (nsR rfl))))))
theorem E49 (x : api_Rest) : (R49 x).all c1B = true := Zc3
theorem D49 (x : api_Rest) : (R49 x).length = Tryz.prog.cellsOf 49 ∧ (R49 x).all datB = true := ⟨Eq.trans (b := 132) Zy tZ_49.symm, Jl⟩
instance : RowD Tryz.prog 49 R49 := ⟨D49⟩
theorem Zn2 {a0 : AV} {v1 : Vector Int 64} {v2 : Vector Int 64} {a3 : AV} {a4 : AV} {a5 : AV} : At ((a0) :: ((List.map C26 v1.toList) ++ (((List.map C3 v2.toList) ++ ((a3) :: (a4) :: (a5) :: []))))) 131 1 ([a5]) := atc (o := 130) (ata (m := 64) (o := 66) arL (ata (m := 64) (o := 2) arL (atc (o := 1) (atc (o := 0) (at0 (hdc (n := 0) hd0))))))
theorem ZlK : ZmM Tryz.prog 28 ((List.replicate 64 ([.i .u16])).flatten) := ⟨by kernel_rfl, by kernel_rfl, by kernel_rfl⟩
theorem Zpt {a0 : AV} {v1 : Vector Int 64} {v2 : Vector Int 64} {a3 : AV} {a4 : AV} {a5 : AV} {b5 : AV} : Put ((a0) :: ((List.map C26 v1.toList) ++ (((List.map C3 v2.toList) ++ ((a3) :: (a4) :: (a5) :: []))))) 131 ([b5]) ((a0) :: ((List.map C26 v1.toList) ++ (((List.map C3 v2.toList) ++ ((a3) :: (a4) :: (b5) :: []))))) := Zij (o := 130) (ZjK (m := 64) (o := 66) arL (ZjK (m := 64) (o := 2) arL (Zij (o := 1) (Zij (o := 0) (Zle)))))
theorem Zem {x : Int} {r : Int} (h : X8 x = some r) :
 CSpec Tryz.prog gl0 73 [.int .u16 x] (.int .i64 r) := by
 unfold X8 at h
 replace h := Qf h
 refine So Tryz.func73 Y fun w0 A=>Tr<|Ra Y<|Za<|Td md0<|D1 0 Zd Y<|bE h fun q h_q h=>Dq 1 Y (Zcq (ov Y) (ov Y) h_q)<|bE h fun b h_b h=>Dq 2 Y (Zjd (ov Y) (ov Y) ZnE h_b)<|D1 3 Zd Y<|D2 4 ZaE Y<|bE h fun b2 h_b2 h=>Dq 5 Y (Zjd (ov Y) (ov Y) ZnE h_b2)<|D2 6 Z2 Y<|Dq 7 Y (QR (ov Y) tI5 tI3 Y)<|D1 8 QE Y<|Dd<|?_
 obtain rfl := rt h
 exact Zu (ZL Y (.one<|rb Y))
theorem Zbc {w : Int} {r : Bool} (h : Jb w = some r) :
 CSpec Tryz.prog gl0 50 [.int .u16 w] (.bool r) := by
 unfold Jb at h
 replace h := Qf h
 refine So Tryz.func50 Y fun w0 A=>Tr<|Ra Y<|Za<|Tr<|Rm Y<|R2 Zf5 Y<|Rm Y<|Rq Y (.guarded ((decide (w ≤ 4095)) == true) Y Y Y Y fun h => Zd<|ov Y)<|bE h fun y h_y h=>Rq Y (.guarded ((decide (w ≤ 4095)) == true) Y Y Y Y fun h => Zq (Zem<|gdT h_y h)<|.cons (ow Y h) (.b Y) .nil)<|bE h fun q h_q h=>Rq Y (.guarded ((decide (w ≤ 4095)) == true) Y Y Y Y fun h => XJ (ow Y h) (ov Y)<|gdT h_q h)<|Rq Y (.guarded ((decide (w ≤ 4095)) == true) Y Y Y Y fun h => QC (ow Y h)<|ov Y)<|Rq Y (XU (ov Y) fun hp=>ow Y<|gT hp)<|Ra Y<|Za<|?_
 obtain rfl := rt h
 exact Zu (ZL Y (.one<|rb Y))
theorem QT {data : Int} {r : Int} (h : Qz data = some r) :
 CSpec Tryz.prog gl0 31 [.int .i64 data] (.int .u16 r) := by
 unfold Qz at h
 replace h := Qf h
 refine So Tryz.func31 Y fun w0 A=>Tr<|Ra Y<|Za<|K1 0 Y<|Tr<|Rm Y<|Rq Y (QR (ov Y) tI3 Zct Y)<|Ra Y<|Za<|Zs<|K1 3 Y<|Tr<|Rm Y<|bE h fun y h_y h=>Rq Y (Zq (Zbc h_y)<|.cons (ov Y) (.b Y) .nil)<|R1 Ji Y<|Za<|K2 3 8 Y<|If h Y (fun h=>?_) fun h=>?_
 ·
  refine K1 3 Y<|ZC<|Rm Y<|R2 Zjf Y<|Ra Y<|Za<|K1 3 Y<|Tr<|Rm Y<|Ra Y<|Za<|?_
  obtain rfl := rt h
  exact Zu (ZL Y (.one<|rb Y))
 ·
  refine Zm<|K1 3 Y<|Tr<|Rm Y<|Ra Y<|Za<|?_
  obtain rfl := rt h
  exact Zu (ZL Y (.one<|rb Y))
theorem Xw {w : Int} {r : Int} (h : QJ w = some r) :
 CSpec Tryz.prog gl0 74 [.int .u16 w] (.int .i64 r) := by
 unfold QJ at h
 replace h := Qf h
 refine So Tryz.func74 Y fun w0 A=>Tr<|Ra Y<|Za<|Tr<|Rm Y<|R2 ZaE Y<|Rq Y (QR (ov Y) Zct tI3 Y)<|Ra Y<|Za<|?_
 obtain rfl := rt h
 exact Zu (ZL Y (.one<|rb Y))
theorem JD {f : Vector Int 64} {r : Int} (h : QF f = some r) :
 CSpec Tryz.prog gl0 51 [.rp (List.map C26 f.toList) 0] (.int .i64 r) := by
 unfold QF at h
 replace h := Qf h
 refine So Tryz.func51 Y fun w0 A=>Tr<|Ra Y<|Za<|Td md0<|D1 0 Zd Y<|D1 1 ZQ Y<|bE h fun x h_x h=>Dq 2 Y (QS (ov Y) (ov Y) QI h_x)<|Dq 3 Y (Zh (ov Y) QO<|Zl<|Z8 (o := 0) (o' := ((Int.toNat 1) * 1)) (Zg arL)<|Z0 h_x)<|bE h fun y h_y h=>Dq 4 Y (Zq (Xw h_y)<|.cons (ov Y) (.b Y) .nil)<|D1 5 Zd Y<|D1 6 ZQ Y<|bE h fun x2 h_x2 h=>Dq 7 Y (QS (ov Y) (ov Y) QI h_x2)<|Dq 8 Y (Zh (ov Y) QO<|Zl<|Z8 (o := 0) (o' := ((Int.toNat 2) * 1)) (Zg arL)<|Z0 h_x2)<|bE h fun y2 h_y2 h=>Dq 9 Y (Zq (Xw h_y2)<|.cons (ov Y) (.b Y) .nil)<|bE h fun q h_q h=>Dq 10 Y (Zhh (ov Y) (ov Y) h_q)<|D2 11 Zjf Y<|D1 12 QE Y<|Dd<|?_
 obtain rfl := rt h
 exact Zu (ZL Y (.one<|rb Y))
theorem ZaX {f : Vector Int 64} {r : Int} (h : Xv f = some r) :
 CSpec Tryz.prog gl0 52 [.rp (List.map C26 f.toList) 0] (.int .i64 r) := by
 unfold Xv at h
 replace h := Qf h
 refine So Tryz.func52 Y fun w0 A=>Tr<|Ra Y<|Za<|K1 0 Y<|Tr<|Ra Y<|Za<|I1 (fun n=>⟨[(3, .int .i64 n)], []⟩) h (fun h=>?_) fun n h=>?_
 ·
  refine Tr<|Rm Y<|Za<|Zn<|?_
  obtain ⟨r1, hl1, ho1⟩ := Xq h
  refine L2 (fun n2 i=>⟨[(0, .rp (List.map C26 f.toList) 0), (3, .int .i64 n2), (5, .int .i64 i)], []⟩) hl1 (ES []) fun n1 n2 i h=>?_
  unfold XK at h
  refine Tr<|R2 Z4 Y<|Za<|Zs<|If h Y (fun h=>?_) fun h=>?_
  ·
   exact Zm<|Zs<|Zn<|K3 0 3 5 Y<|Tr<|Rm Y<|Ra Y<|Za<|K4 0 3 4 5 Y<|ZC<|Rm Y<|Rm Y<|Rm Y<|R2 Z2 Y<|R1 ZQ Y<|bE h fun x h_x h=>Rq Y (QS (ov Y) (ov Y) QI h_x)<|Rq Y (Zh (ov Y) QO<|Zl<|Z8 (o := 0) (o' := ((i64 (i + 1)).toNat * 1)) (Zg arL)<|Z0 h_x)<|bE h fun y h_y h=>Rq Y (Zq (Xw h_y)<|.cons (ov Y) (.b Y) .nil)<|R2 Zfu Y<|Ra Y<|Za<|K3 0 3 5 Y<|ZC<|R2 Z2 Y<|Rm Y<|Za<|⟨_, h, ES []⟩
  ·
   refine ZT<|?_
   replace h := lx h ▸ ho1
   exact ⟨_, h, ES []⟩
 ·
  refine Tr<|Rm Y<|Ra Y<|Za<|?_
  obtain rfl := rt h
  exact Zu (ZL Y (.one<|rb Y))
theorem J4 {f : Vector Int 64} {r : Int} (h : QU f = some r) :
 CSpec Tryz.prog gl0 53 [.rp (List.map C26 f.toList) 0] (.int .i64 r) := by
 unfold QU at h
 replace h := Qf h
 refine So Tryz.func53 Y fun w0 A=>Tr<|Ra Y<|Za<|K1 0 Y<|Tr<|Ra Y<|Za<|I1 (fun n=>⟨[(3, .int .i64 n)], []⟩) h (fun h=>?_) fun n h=>?_
 ·
  refine Tr<|Rm Y<|Za<|Zn<|?_
  obtain ⟨r1, hl1, ho1⟩ := Xq h
  refine L2 (fun n2 i=>⟨[(0, .rp (List.map C26 f.toList) 0), (3, .int .i64 n2), (7, .int .i64 i)], []⟩) hl1 (ES []) fun n1 n2 i h=>?_
  unfold Q6 at h
  refine Tr<|R2 Z4 Y<|Za<|Zs<|If h Y (fun h=>?_) fun h=>?_
  ·
   refine Zm<|I1 (fun n3=>⟨[(0, .rp (List.map C26 f.toList) 0), (3, .int .i64 n3), (7, .int .i64 i)], []⟩) h (fun h=>?_) fun n3 h=>?_
   ·
    refine Zn<|K3 0 3 7 Y<|Tr<|Rm Y<|Ra Y<|Za<|K4 0 3 4 7 Y<|Tr<|Ra Y<|Za<|Zn<|?_
    obtain ⟨r2, hl2, ho2⟩ := Xq h
    refine L2 (fun n4 k=>⟨[(0, .rp (List.map C26 f.toList) 0), (3, .int .i64 n4), (4, .int .i64 i), (5, .int .i64 k), (7, .int .i64 i)], []⟩) hl2 (ES []) fun n2 n4 k h=>?_
    unfold QN at h
    refine Zs<|Tr<|Rm Y<|R2 ZbR Y<|Za<|K6 0 3 4 5 7 11 Y<|If h Y (fun h=>?_) fun h=>?_
    ·
     refine Zm<|Zs<|Zn<|K5 0 3 4 5 7 Y<|Tr<|Rm Y<|R2 ZaE Y<|R2 XY Y<|Ra Y<|Za<|K6 0 3 4 5 6 7 Y<|Tr<|Rm Y<|bE h fun q h_q h=>Rq Y (Zhh (ov Y) (ov Y) h_q)<|R2 ZaE Y<|Ra Y<|Za<|K6 0 3 4 5 6 7 Y<|Tr<|Rm Y<|Rm Y<|Rm Y<|R1 ZQ Y<|bE h fun x h_x h=>Rq Y (QS (ov Y) (ov Y) QI h_x)<|Rq Y (Zh (ov Y) QO<|Zl<|Z8 (o := 0) (o' := (i.toNat * 1)) (Zg arL)<|Z0 h_x)<|Rm Y<|bE h fun q2 h_q2 h=>Rq Y (Zcq (ov Y) (ov Y) h_q2)<|R2 ZaE Y<|R2 QC Y<|Rq Y (ZlH .neq (by simp) (ov Y) (ov Y) tB4)<|Za<|K6 0 3 4 5 7 30 Y<|If h Y (fun h=>?_) fun h=>?_
     ·
      exact K5 0 3 4 5 7 Y<|ZC<|Rm Y<|R2 Zfu Y<|Ra Y<|Za<|K5 0 3 4 5 7 Y<|ZC<|Rm Y<|R2 ZdT Y<|Ra Y<|Za<|⟨_, h, ES []⟩
     ·
      exact Zm<|K5 0 3 4 5 7 Y<|ZC<|Rm Y<|R2 ZdT Y<|Ra Y<|Za<|⟨_, h, ES []⟩
    ·
     refine ZT<|?_
     replace h := lx h ▸ ho2
     exact ⟨_, h, ES []⟩
   ·
    exact ZC<|R2 Z2 Y<|Rm Y<|Za<|⟨_, h, ES []⟩
  ·
   refine ZT<|?_
   replace h := lx h ▸ ho1
   exact ⟨_, h, ES []⟩
 ·
  refine Tr<|Rm Y<|Ra Y<|Za<|?_
  obtain rfl := rt h
  exact Zu (ZL Y (.one<|rb Y))
theorem Ze3 {f : Vector Int 64} {r : (Vector Int 64)} (h : ZaV f = some r) :
 GSpec Tryz.prog gl0 32 [.ptr 0 1 0 0] [some ⟨28, [(List.map C26 f.toList)]⟩] (.tuple []) [some ⟨28, [(List.map C26 r.toList)]⟩] := by
 unfold ZaV at h
 replace h := Qf h
 refine ZdL (by kernel_rfl) Tryz.func32 Y Y<|?_
 intro w0 A W φ0
 refine Td md0<|D1 0 Zd Y<|D1 1 Zd Y<|bE h fun y h_y h=>Dq 2 Y (J5 (JD h_y) .int<|.cons (ov Y) (View.ptr Y Y Y (pwB<|arD fun _ => Y) (hns := (nsM fun _ => Y))) .nil)<|bE h fun q h_q h=>Dq 3 Y (XJ (ov Y) (ov Y) h_q)<|bE h fun x h_x h=>Dq 4 Y (QS (og (v := gv_frame_syncs) (k := .u16) (f := C26) (by simp [gl0]) fun _=>Y) (ov Y) Zku h_x)<|Dq 5 Y (Zh (ov Y) QO<|Zl<|Z8 (o := 0) (o' := (q.toNat * 1)) (Zg arL)<|Z0 h_x)<|Dq 6 Y (Zk (ov Y) Y Y)<|bE h fun x2 h_x2 h=>Dq 7 Y (Z5 (ov Y) (ov Y) QI Y Y h_x2)<|Do 8 Y (Ze (ov Y) (ov Y) (Zf QO) Y Y Y (arB h_x2) (Zb Y)<|arS h_x2)<|Dd<|K1 0 Y<|Td md0<|D1 0 Zd Y<|D1 1 Zd Y<|bE h fun y2 h_y2 h=>Dq 2 Y (J5 (ZaX h_y2) .int<|.cons (ov Y) (View.ptr Y Y Y (pwB<|arD fun _ => Y) (hns := (nsM fun _ => Y))) .nil)<|bE h fun y3 h_y3 h=>Dq 3 Y (Zq (QT h_y3)<|.cons (ov Y) (.b Y) .nil)<|Dq 4 Y (Zk (ov Y) Y Y)<|bE h fun x3 h_x3 h=>Dq 5 Y (Z5 (ov Y) (ov Y) QI Y Y h_x3)<|Do 6 Y (Ze (ov Y) (ov Y) (Zf QO) Y Y Y (arB h_x3) (Zb Y)<|arS h_x3)<|Dd<|K1 0 Y<|Tr<|Rm Y<|bE h fun y4 h_y4 h=>Rq Y (J5 (J4 h_y4) .int<|.cons (ov Y) (View.ptr Y Y Y (pwB<|arD fun _ => Y) (hns := (nsM fun _ => Y))) .nil)<|Ra Y<|Za<|K2 0 2 Y<|Zac (cw := md0) (by kernel_rfl)<|D1 0 Zd Y<|D1 2 Zd Y<|bE h fun q2 h_q2 h=>Dq 3 Y (Zcq (ov Y) (ov Y) h_q2)<|bE h fun y5 h_y5 h=>Dq 4 Y (Zq (QT h_y5)<|.cons (ov Y) (.b Y) .nil)<|D1 5 Zd Y<|D2 6 ZaE Y<|bE h fun y6 h_y6 h=>Dq 7 Y (Zq (QT h_y6)<|.cons (ov Y) (.b Y) .nil)<|Dq 8 Y (Zk (ov Y) Y Y)<|bE h fun x4 h_x4 h=>Dq 9 Y (Z5 (ov Y) (ov Y) QI Y Y h_x4)<|ZaG 1 _ Y (by kernel_rfl) Y Y (fun hp'=>Zd<|ov Y)<|Dw 11 10 Y (Zk (ov Y) Y Y) (Ze (ov Y) (ov Y) (Zf QO) Y Y Y (arB h_x4) (Zb Y)<|arS h_x4) ?_ ?_
 ·
  refine Do 10 Y (Ze (ov Y) (ov Y) (Zf QO) Y Y Y (arB h_x4) (Zb Y)<|arS h_x4)<|bE h fun x5 h_x5 h=>Dq 12 Y (Z5 (ov Y) (ov Y) QI Y Y h_x5)<|Do 13 Y (Ze (ov Y) (ov Y) (Zf QO) Y Y Y (arB h_x5) (Zb Y)<|arS h_x5)<|Dd<|?_
  obtain rfl := rt h
  exact Zkd [some 0] Y .nil (.cons Y (ro1 (by exact Eq.trans (b := 64) arL tZ_28.symm)<|rld<|arD fun _ => Y) .nil) Y Y<|ZgF rln
 ·
  refine Dq 11 Y (Zk (ov Y) Y Y)<|bE h fun x5 h_x5 h=>Dq 12 Y (Z5 (ov Y) (ov Y) QI Y Y h_x5)<|Do 13 Y (Ze (ov Y) (ov Y) (Zf QO) Y Y Y (arB h_x5) (Zb Y)<|arS h_x5)<|Dd<|?_
  obtain rfl := rt h
  exact Zkd [some 0] Y .nil (.cons Y (ro1 (by exact Eq.trans (b := 64) arL tZ_28.symm)<|rld<|arD fun _ => Y) .nil) Y Y<|ZgF rln
theorem ZiG {number : Int} {data : List Int} {r : (Vector Int 64) × Int} (h : Zc5 number data = some r) :
 CSpec Tryz.prog gl0 14 [.int .i64 number, .sl 3 (List.map R3 data)] (.tuple [.agg (List.map C26 r.1.toList), .int .i64 r.2]) := by
 unfold Zc5 at h
 replace h := Qf h
 refine So Tryz.func14 Y fun w0 A=>Tr<|Rx Y (ZP (row := (List.map C26 (Vector.replicate 64 0).toList)) 0 Y ZbV Y tZ_28)<|Ra Y<|Za<|Zs<|K3 0 1 4 Y<|Tr<|Rm Y<|R2 Z4 Y<|Rm Y<|Rq Y (.guarded ((decide (number < 0)) == false) Y Y Y Y fun h => Zd<|ov Y)<|Rq Y (.guarded ((decide (number < 0)) == false) Y Y Y Y fun h => ZbR (ow Y h)<|ov Y)<|Rq Y (JH (ov Y) fun hp=>ow Y<|gF hp)<|Za<|K4 0 1 4 14 Y<|If h Y (fun h=>?_) fun h=>?_
 ·
  refine K1 4 Y<|Tr<|R_q (.agg<|List.map C26 (#v[0, 0, 0, 0, 0, 0, 0, 0, 0, 0, 0, 0, 0, 0, 0, 0, 0, 0, 0, 0, 0, 0, 0, 0, 0, 0, 0, 0, 0, 0, 0, 0, 0, 0, 0, 0, 0, 0, 0, 0, 0, 0, 0, 0, 0, 0, 0, 0, 0, 0, 0, 0, 0, 0, 0, 0, 0, 0, 0, 0, 0, 0, 0, 0] : Vector Int 64).toList) Y (ZaU (ys := [_, _, _, _, _, _, _, _, _, _, _, _, _, _, _, _, _, _, _, _, _, _, _, _, _, _, _, _, _, _, _, _, _, _, _, _, _, _, _, _, _, _, _, _, _, _, _, _, _, _, _, _, _, _, _, _, _, _, _, _, _, _, _, _]) QI ZbV .nil Y)<|Rx Y (Ze (ov Y) (ov Y) (Zo Z7 arL) Y Y Y (ZF (Zg arL) arL) (Zb<|arC fun _ => Y)<|ZK<|Eq.trans arL<|Eq.symm arL)<|Ra Y<|Za<|?_
  obtain rfl := rt h
  exact Zu (ZL Y (.two (.agg Y Y Y Y Z7 (Zr<|Zg arL) arL (pwB<|arD fun _ => Y) (hns := (nsM fun _ => Y)))<|rb Y))
 ·
  refine Zm<|Zs<|K3 0 1 4 Y<|Tr<|Rm Y<|Rl tZ_3 QQ Y<|R2 XY Y<|Za<|K4 0 1 4 18 Y<|If h Y (fun h=>?_) fun h=>?_
  ·
   refine K1 4 Y<|Tr<|R_q (.agg<|List.map C26 (#v[0, 0, 0, 0, 0, 0, 0, 0, 0, 0, 0, 0, 0, 0, 0, 0, 0, 0, 0, 0, 0, 0, 0, 0, 0, 0, 0, 0, 0, 0, 0, 0, 0, 0, 0, 0, 0, 0, 0, 0, 0, 0, 0, 0, 0, 0, 0, 0, 0, 0, 0, 0, 0, 0, 0, 0, 0, 0, 0, 0, 0, 0, 0, 0] : Vector Int 64).toList) Y (ZaU (ys := [_, _, _, _, _, _, _, _, _, _, _, _, _, _, _, _, _, _, _, _, _, _, _, _, _, _, _, _, _, _, _, _, _, _, _, _, _, _, _, _, _, _, _, _, _, _, _, _, _, _, _, _, _, _, _, _, _, _, _, _, _, _, _, _]) QI ZbV .nil Y)<|Rx Y (Ze (ov Y) (ov Y) (Zo Z7 arL) Y Y Y (ZF (Zg arL) arL) (Zb<|arC fun _ => Y)<|ZK<|Eq.trans arL<|Eq.symm arL)<|Ra Y<|Za<|?_
   obtain rfl := rt h
   exact Zu (ZL Y (.two (.agg Y Y Y Y Z7 (Zr<|Zg arL) arL (pwB<|arD fun _ => Y) (hns := (nsM fun _ => Y)))<|rb Y))
  ·
   refine Zm<|K3 0 1 4 Y<|Tr<|Rx Y (ZP (row := (List.map C26 (Vector.replicate 64 0).toList)) 1 Y ZbV Y tZ_28)<|Za<|Tr<|Rm Y<|R2 ZaE Y<|bE h fun y h_y h=>Rq Y (Zq (QT h_y)<|.cons (ov Y) (.b Y) .nil)<|Rm Y<|bE h fun q h_q h=>Rq Y (Zcq (ov Y) (ov Y) h_q)<|bE h fun y2 h_y2 h=>Rq Y (Zq (QT h_y2)<|.cons (ov Y) (.b Y) .nil)<|bE h fun x h_x h=>Rq Y (Z5 (ov Y) (ov Y) QI Y Y h_x)<|Rx Y (Ze (ov Y) (ov Y) (Zf QO) Y Y Y (arB h_x) (Zb Y)<|arS h_x)<|bE h fun x2 h_x2 h=>Rq Y (Z5 (ov Y) (ov Y) QI Y Y h_x2)<|Rx Y (Ze (ov Y) (ov Y) (Zf QO) Y Y Y (arB h_x2) (Zb Y)<|arS h_x2)<|Za<|J1 (fun j => (.inr j)) (fun f=>⟨[(4, .ptr 0 1 0 0), (6, .ptr 1 1 0 0)], [some ⟨28, [(List.map C26 (Vector.replicate 64 0).toList)]⟩, some ⟨28, [(List.map C26 f.toList)]⟩]⟩) h (fun h=>?_) fun f h=>?_
   ·
    refine K3 1 4 6 Y<|Tr<|Rm Y<|Rl tZ_3 QQ Y<|Rm Y<|Za<|Zn<|?_
    obtain ⟨r1, hl1, ho1⟩ := Xq h
    refine L2 (fun f2 i=>⟨[(4, .ptr 0 1 0 0), (6, .ptr 1 1 0 0), (28, .sl 3 (List.map R3 data)), (29, .int .i64 (data.length : Int)), (30, .int .i64 i)], [some ⟨28, [(List.map C26 (Vector.replicate 64 0).toList)]⟩, some ⟨28, [(List.map C26 f2.toList)]⟩]⟩) hl1 (ES [some 0, some 1]) fun n1 f2 i h=>?_
    unfold ZbU at h
    refine Tr<|R2 Z4 Y<|Za<|Zs<|If h Y (fun h=>?_) fun h=>?_
    ·
     refine Zm<|Zs<|Zn<|K5 4 6 28 29 30 Y<|Tr<|Rm Y<|bE h fun x3 h_x3 h=>Rq Y (ZX (ov Y) (ov Y) QQ h_x3)<|Rq Y (Zh (ov Y) tS3 Y)<|Ra Y<|Ra Y<|Za<|Zs<|K7 4 6 7 8 28 29 30 Y<|Tr<|Rm Y<|R2 Z4 Y<|Rm Y<|Rq Y (.guarded ((decide (x3 < 0)) == false) Y Y Y Y fun h => Zd<|ov Y)<|Rq Y (.guarded ((decide (x3 < 0)) == false) Y Y Y Y fun h => ZaJ (ow Y h)<|ov Y)<|Rq Y (JH (ov Y) fun hp=>ow Y<|gF hp)<|Za<|K8 4 6 7 8 28 29 30 40 Y<|If h Y (fun h=>?_) fun h=>?_
     ·
      refine K1 4 Y<|Tr<|R_q (.agg<|List.map C26 (#v[0, 0, 0, 0, 0, 0, 0, 0, 0, 0, 0, 0, 0, 0, 0, 0, 0, 0, 0, 0, 0, 0, 0, 0, 0, 0, 0, 0, 0, 0, 0, 0, 0, 0, 0, 0, 0, 0, 0, 0, 0, 0, 0, 0, 0, 0, 0, 0, 0, 0, 0, 0, 0, 0, 0, 0, 0, 0, 0, 0, 0, 0, 0, 0] : Vector Int 64).toList) Y (ZaU (ys := [_, _, _, _, _, _, _, _, _, _, _, _, _, _, _, _, _, _, _, _, _, _, _, _, _, _, _, _, _, _, _, _, _, _, _, _, _, _, _, _, _, _, _, _, _, _, _, _, _, _, _, _, _, _, _, _, _, _, _, _, _, _, _, _]) QI ZbV .nil Y)<|Rx Y (Ze (ov Y) (ov Y) (Zo Z7 arL) Y Y Y (ZF (Zg arL) arL) (Zb<|arC fun _ => Y)<|ZK<|Eq.trans arL<|Eq.symm arL)<|Ra Y<|Za<|?_
      replace h := lx h ▸ ho1
      obtain rfl := rt h
      exact Zu (ZL Y (.two (.agg Y Y Y Y Z7 (Zr<|Zg arL) arL (pwB<|arD fun _ => Y) (hns := (nsM fun _ => Y)))<|rb Y))
     ·
      exact Zm<|K7 4 6 7 8 28 29 30 Y<|ZC<|Rm Y<|R2 Z2 Y<|Rm Y<|bE h fun y3 h_y3 h=>Rq Y (Zq (QT h_y3)<|.cons (ov Y) (.b Y) .nil)<|bE h fun x4 h_x4 h=>Rq Y (Z5 (ov Y) (ov Y) QI Y Y h_x4)<|Rx Y (Ze (ov Y) (ov Y) (Zf QO) Y Y Y (arB h_x4) (Zb Y)<|arS h_x4)<|Za<|K5 4 6 28 29 30 Y<|ZC<|R2 Z2 Y<|Rm Y<|Za<|⟨_, h, ES [some 0, some 1]⟩
    ·
     refine ZT<|?_
     replace h := lx h ▸ ho1
     exact ⟨_, h, ES [some 0, some 1]⟩
   ·
    replace h := elr h
    replace h := t1i h
    refine Tr<|bE h fun y4 h_y4 h=>Rx Y (Zdj [1] (Ze3 h_y4) (.cons (ov Y) (.ptr _ _ _ Y) .nil) (.cons Y (ro1 (by exact Eq.trans (b := 64) arL tZ_28.symm)<|rld<|arD fun _ => Y) .nil) Y (.keep Y Y<|.lent 0 (.inl Y) Y (ro1 (by exact Eq.trans (b := 64) arL tZ_28.symm)<|rld<|arD fun _ => Y) .nil) Y Y<|ZgF<|rld Y)<|Za<|K2 4 6 Y<|Tr<|Rq Y (ZB (ov Y) Y Y Y Z7 (Zr<|Zg arL) arL (hns := (nsM fun _ => Y)))<|Rx Y (Ze (ov Y) (ov Y) (Zo Z7 arL) Y Y Y (ZF (Zg arL) arL) (Zb<|arC fun _ => Y)<|ZK<|Eq.trans arL<|Eq.symm arL)<|Ra Y<|Za<|?_
    obtain rfl := rt h
    exact Zu (ZL Y (.two (.agg Y Y Y Y Z7 (Zr<|Zg arL) arL (pwB<|arD fun _ => Y) (hns := (nsM fun _ => Y)))<|rb Y))
theorem Zir  {r : Bool} (h : Zb0  = some r) :
 CSpec Tryz.prog gl0 4 [] (.bool r) := by
 unfold Zb0 at h
 replace h := Qf h
 refine So Tryz.func4 Y fun w0 A=>Tr<|Ra Y<|Za<|K0<|Tr<|bE h fun l h_l h=>Rx Y (Ziy [none] (r := 0) (f := R3) (z0 := 0) Y (ov Y) (ov Y) QQ Y tZ3 Y Y h_l)<|Ra Y<|Za<|K1 1 Y<|Tr<|Rm Y<|bE h fun x h_x h=>Rq Y (Za2 (ov Y) (ov Y) QQ Y Y h_x)<|Rx Y (Zc2 (u' := 5) (ov Y) (ov Y) (Zf tS3) Y Y h_x Y (Zb Y) Y)<|Za<|K1 1 Y<|Tr<|Rm Y<|bE h fun y h_y h=>Rq Y (J5 (ZiG h_y) (.tuple<|by simp only [List.mem_cons, List.not_mem_nil, or_false, forall_eq_or_imp, forall_eq]; exact ⟨(Zl3 (fun _ => .int)), .int⟩)<|.cons (ov Y) (Dat.view<|.b Y)<|.cons (ov Y) (View.ownM Y ((List.length_set ..).trans Y) D3) .nil)<|Rm Y<|Rq Y (Zi (ov Y) Y)<|Rq Y (Zi (ov Y) Y)<|Rx Y (ZP (row := (List.map C26 (Vector.replicate 64 0).toList)) 1 Y ZbV Y tZ_28)<|Rx Y (Ze (ov Y) (ov Y) (Zo Z7 arL) Y Y Y (ZF (Zg arL) arL) (Zb<|arC fun _ => Y)<|ZK<|Eq.trans arL<|Eq.symm arL)<|Ra Y<|Za<|K2 2 3 Y<|Tr<|Rm Y<|R2 QC Y<|Rm Y<|bE h fun x2 h_x2 h=>Rq Y (.guarded ((decide (y.2 = 0)) == true) Y Y Y Y fun h => Z5 (ov Y) (ov Y) QI Y Y<|gdT h_x2 h)<|Rq Y (.guarded ((decide (y.2 = 0)) == true) Y Y Y Y fun h => Zj (ow Y h) Y Y Y QO<|Zl<|Z8 (o := 0) (o' := ((Int.toNat 0) * 1)) (Zg arL)<|Z0<|gdT h_x2 h)<|Rq Y (.guarded ((decide (y.2 = 0)) == true) Y Y Y Y fun h => QC (ow Y h)<|ov Y)<|Rq Y (XU (ov Y) fun hp=>ow Y<|gT hp)<|Rm Y<|bE h fun x3 h_x3 h=>Rq Y (.guarded (((decide (y.2 = 0)) && (decide (x2 = 2631))) == true) Y Y Y Y fun h => Z5 (ov Y) (ov Y) QI Y Y<|gdT h_x3 h)<|Rq Y (.guarded (((decide (y.2 = 0)) && (decide (x2 = 2631))) == true) Y Y Y Y fun h => Zj (ow Y h) Y Y Y QO<|Zl<|Z8 (o := 0) (o' := ((Int.toNat 1) * 1)) (Zg arL)<|Z0<|gdT h_x3 h)<|Rq Y (.guarded (((decide (y.2 = 0)) && (decide (x2 = 2631))) == true) Y Y Y Y fun h => QC (ow Y h)<|ov Y)<|Rq Y (XU (ov Y) fun hp=>ow Y<|gT hp)<|Rm Y<|bE h fun x4 h_x4 h=>Rq Y (.guarded ((((decide (y.2 = 0)) && (decide (x2 = 2631))) && (decide (x3 = 2))) == true) Y Y Y Y fun h => Z5 (ov Y) (ov Y) QI Y Y<|gdT h_x4 h)<|Rq Y (.guarded ((((decide (y.2 = 0)) && (decide (x2 = 2631))) && (decide (x3 = 2))) == true) Y Y Y Y fun h => Zj (ow Y h) Y Y Y QO<|Zl<|Z8 (o := 0) (o' := ((Int.toNat 2) * 1)) (Zg arL)<|Z0<|gdT h_x4 h)<|Rq Y (.guarded ((((decide (y.2 = 0)) && (decide (x2 = 2631))) && (decide (x3 = 2))) == true) Y Y Y Y fun h => QC (ow Y h)<|ov Y)<|Rq Y (XU (ov Y) fun hp=>ow Y<|gT hp)<|Rm Y<|bE h fun x5 h_x5 h=>Rq Y (.guarded (((((decide (y.2 = 0)) && (decide (x2 = 2631))) && (decide (x3 = 2))) && (decide (x4 = 1))) == true) Y Y Y Y fun h => Z5 (ov Y) (ov Y) QI Y Y<|gdT h_x5 h)<|Rq Y (.guarded (((((decide (y.2 = 0)) && (decide (x2 = 2631))) && (decide (x3 = 2))) && (decide (x4 = 1))) == true) Y Y Y Y fun h => Zj (ow Y h) Y Y Y QO<|Zl<|Z8 (o := 0) (o' := ((Int.toNat 3) * 1)) (Zg arL)<|Z0<|gdT h_x5 h)<|Rq Y (.guarded (((((decide (y.2 = 0)) && (decide (x2 = 2631))) && (decide (x3 = 2))) && (decide (x4 = 1))) == true) Y Y Y Y fun h => QC (ow Y h)<|ov Y)<|Rq Y (XU (ov Y) fun hp=>ow Y<|gT hp)<|Ra Y<|Za<|?_
 obtain rfl := rt h
 exact Zu (ZL Y (.one<|rb Y))
theorem ZfF {f : Vector Int 64} {r : Int} (h : X4 f = some r) :
 CSpec Tryz.prog gl0 34 [.agg (List.map C26 f.toList)] (.int .i64 r) := by
 unfold X4 at h
 replace h := Qf h
 refine So Tryz.func34 Y fun w0 A=>Tr<|Rq Y (Qo (cva<|ov Y) arL tZ_28<|arD fun _ => Y)<|Ra Y<|Za<|K2 1 2 Y<|Tr<|bE h fun x h_x h=>Rq Y (QS (ov Y) (ov Y) QI h_x)<|Rq Y (Zh (ov Y) QO<|Zl<|Z8 (o := 0) (o' := ((Int.toNat 1) * 1)) (Zg arL)<|Z0 h_x)<|Rq Y (QR (ov Y) Zct tI3 Y)<|bE h fun q h_q h=>Rq Y (XJ (ov Y) (ov Y) h_q)<|bE h fun x2 h_x2 h=>Rq Y (QS (ov Y) (ov Y) QI h_x2)<|Rq Y (Zh (ov Y) QO<|Zl<|Z8 (o := 0) (o' := ((Int.toNat 2) * 1)) (Zg arL)<|Z0 h_x2)<|Rq Y (QR (ov Y) Zct tI3 Y)<|bE h fun q2 h_q2 h=>Rq Y (XJ (ov Y) (ov Y) h_q2)<|R2 Zdz Y<|R2 Z2 Y<|Ra Y<|Za<|?_
 obtain rfl := rt h
 exact Zu (ZL Y (.one<|rb Y))
theorem ZgQ {number : Int} {r : Int} (h : JX number = some r) :
 CSpec Tryz.prog gl0 33 [.int .i64 number] (.int .i64 r) := by
 unfold JX at h
 replace h := Qf h
 refine So Tryz.func33 Y fun w0 A=>Tr<|Ra Y<|Za<|Tr<|R_q (.agg<|List.map C3 (#v[583, 1464, 2631, 3512] : Vector Int 4).toList) Y (ZaU (ys := [_, _, _, _]) ZnR ZoR (.cons (cvs (ov Y)<|ZY Y)<|.cons (cvs (ov Y)<|ZY Y)<|.cons (cvs (ov Y)<|ZY Y)<|.cons (cvs (ov Y)<|ZY Y) .nil) Y)<|Rm Y<|bE h fun q h_q h=>Rq Y (XJ (ov Y) (ov Y) h_q)<|bE h fun x h_x h=>Rq Y (ZaL (ov Y) (ov Y) ZnR tS3 h_x)<|Ra Y<|Za<|?_
 obtain rfl := rt h
 exact Zu (ZL Y (.one<|rb Y))
theorem Zjr {n : Int} {r : Bool} (h : Zbb n = some r) :
 CSpec Tryz.prog gl0 35 [.int .i64 n] (.bool r) := by
 unfold Zbb at h
 replace h := Qf h
 refine So Tryz.func35 Y fun w0 A=>Tr<|Ra Y<|Za<|K1 0 Y<|Tr<|Ra Y<|Za<|I1 (fun ones=>⟨[(3, .int .i64 ones)], []⟩) h (fun h=>?_) fun ones h=>?_
 ·
  refine Zn<|?_
  obtain ⟨r1, hl1, ho1⟩ := Xq h
  refine L2 (fun n2 ones2=>⟨[(0, .int .i64 n2), (3, .int .i64 ones2)], []⟩) hl1 (ES []) fun n1 n2 ones2 h=>?_
  unfold ZcJ at h
  refine Zs<|Tr<|Rm Y<|R2 ZaJ Y<|Za<|K3 0 3 5 Y<|If h Y (fun h=>?_) fun h=>?_
  ·
   exact Zm<|Zs<|Zn<|K2 0 3 Y<|ZC<|Rm Y<|Rm Y<|bE h fun q h_q h=>Rq Y (XJ (ov Y) (ov Y) h_q)<|R2 Z2 Y<|Ra Y<|Za<|K2 0 3 Y<|ZC<|Rm Y<|bE h fun q2 h_q2 h=>Rq Y (Zcd (ov Y) (ov Y) h_q2)<|Ra Y<|Za<|⟨_, h, ES []⟩
  ·
   refine ZT<|?_
   replace h := lx h ▸ ho1
   exact ⟨_, h, ES []⟩
 ·
  refine Tr<|Rm Y<|bE h fun q3 h_q3 h=>Rq Y (XJ (ov Y) (ov Y) h_q3)<|R2 QC Y<|Ra Y<|Za<|?_
  obtain rfl := rt h
  exact Zu (ZL Y (.one<|rb Y))
theorem Zjp {f : Vector Int 64} {r : Int} (h : Zcs f = some r) :
 CSpec Tryz.prog gl0 36 [.agg (List.map C26 f.toList)] (.int .i64 r) := by
 unfold Zcs at h
 replace h := Qf h
 refine So Tryz.func36 Y fun w0 A=>Tr<|Rq Y (Qo (cva<|ov Y) arL tZ_28<|arD fun _ => Y)<|Ra Y<|Za<|K1 1 Y<|Tr<|Ra Y<|Za<|I1 (fun x=>⟨[(3, .int .i64 x)], []⟩) h (fun h=>?_) fun x h=>?_
 ·
  refine Tr<|Ra Y<|Za<|Zn<|?_
  obtain ⟨r1, hl1, ho1⟩ := Xq h
  refine L2 (fun x2 i=>⟨[(1, .rp (List.map C26 f.toList) 0), (3, .int .i64 x2), (4, .int .i64 i)], []⟩) hl1 (ES []) fun n1 x2 i h=>?_
  unfold ZbD at h
  refine Zs<|Tr<|Rm Y<|R2 Zf5 Y<|Za<|K4 1 3 4 6 Y<|If h Y (fun h=>?_) fun h=>?_
  ·
   exact Zm<|Zs<|Zn<|K3 1 3 4 Y<|ZC<|Rm Y<|Rm Y<|bE h fun x3 h_x3 h=>Rq Y (QS (ov Y) (ov Y) QI h_x3)<|Rq Y (Zh (ov Y) QO<|Zl<|Z8 (o := 0) (o' := (i.toNat * 1)) (Zg arL)<|Z0 h_x3)<|Rq Y (QR (ov Y) Zct tI3 Y)<|bE h fun q h_q h=>Rq Y (XJ (ov Y) (ov Y) h_q)<|R2 Zfu Y<|Ra Y<|Za<|K3 1 3 4 Y<|ZC<|Rm Y<|R2 Z2 Y<|Ra Y<|Za<|⟨_, h, ES []⟩
  ·
   refine ZT<|?_
   replace h := lx h ▸ ho1
   exact ⟨_, h, ES []⟩
 ·
  refine Tr<|Rm Y<|Ra Y<|Za<|?_
  obtain rfl := rt h
  exact Zu (ZL Y (.one<|rb Y))
theorem Zhl {f : Vector Int 64} {r : Int} (h : ZaC f = some r) :
 CSpec Tryz.prog gl0 37 [.agg (List.map C26 f.toList)] (.int .i64 r) := by
 unfold ZaC at h
 replace h := Qf h
 refine So Tryz.func37 Y fun w0 A=>Tr<|Rq Y (Qo (cva<|ov Y) arL tZ_28<|arD fun _ => Y)<|Ra Y<|Za<|K1 1 Y<|Tr<|Ra Y<|Za<|I1 (fun rest=>⟨[(3, .int .i64 rest)], []⟩) h (fun h=>?_) fun rest h=>?_
 ·
  refine Tr<|Ra Y<|Za<|Zn<|?_
  obtain ⟨r1, hl1, ho1⟩ := Xq h
  refine L2 (fun rest2 i=>⟨[(1, .rp (List.map C26 f.toList) 0), (3, .int .i64 rest2), (4, .int .i64 i)], []⟩) hl1 (ES []) fun n1 rest2 i h=>?_
  unfold Zaf at h
  refine Zs<|Tr<|Rm Y<|R2 Z4 Y<|Za<|K4 1 3 4 7 Y<|If h Y (fun h=>?_) fun h=>?_
  ·
   refine Zm<|Zs<|Zn<|K3 1 3 4 Y<|Tr<|Ra Y<|Za<|I1 (fun bit=>⟨[(1, .rp (List.map C26 f.toList) 0), (3, .int .i64 rest2), (4, .int .i64 i), (5, .int .i64 bit)], []⟩) h (fun h=>?_) fun bit h=>?_
   ·
    refine Tr<|Rm Y<|R2 Z4 Y<|Za<|K5 1 3 4 5 11 Y<|If h Y (fun h=>?_) fun h=>?_
    ·
     exact K4 1 3 4 5 Y<|ZC<|Rm Y<|bE h fun q h_q h=>Rq Y (Zcd (ov Y) (ov Y) h_q)<|bE h fun x h_x h=>Rq Y (QS (ov Y) (ov Y) QI h_x)<|Rq Y (Zh (ov Y) QO<|Zl<|Z8 (o := 0) (o' := (q.toNat * 1)) (Zg arL)<|Z0 h_x)<|Rq Y (QR (ov Y) Zct tI3 Y)<|Rm Y<|bE h fun q2 h_q2 h=>Rq Y (XJ (ov Y) (ov Y) h_q2)<|R2 ZdT Y<|bE h fun q3 h_q3 h=>Rq Y (Zcq (ov Y) (ov Y) h_q3)<|R2 ZaE Y<|Ra Y<|Za<|⟨_, h, ES []⟩
    ·
     exact Zm<|⟨_, h, ES []⟩
   ·
    refine Tr<|Rm Y<|R2 Zdz Y<|Rm Y<|R2 Z2 Y<|Ra Y<|Za<|K3 1 3 4 Y<|Tr<|Rm Y<|R2 ZbR Y<|Za<|K4 1 3 4 27 Y<|If h Y (fun h=>?_) fun h=>?_
    ·
     exact K3 1 3 4 Y<|ZC<|Rm Y<|R2 Zfu Y<|Ra Y<|Za<|K3 1 3 4 Y<|ZC<|Rm Y<|R2 Z2 Y<|Ra Y<|Za<|⟨_, h, ES []⟩
    ·
     exact Zm<|K3 1 3 4 Y<|ZC<|Rm Y<|R2 Z2 Y<|Ra Y<|Za<|⟨_, h, ES []⟩
  ·
   refine ZT<|?_
   replace h := lx h ▸ ho1
   exact ⟨_, h, ES []⟩
 ·
  refine Tr<|Rm Y<|Ra Y<|Za<|?_
  obtain rfl := rt h
  exact Zu (ZL Y (.one<|rb Y))
theorem Zhn {f : Vector Int 64} {r : (List api_Flaw)} (h : Zcn f = some r) :
 CSpec Tryz.prog gl0 15 [.agg (List.map C26 f.toList)] (.sl 75 (List.map R75 r)) := by
 unfold Zcn at h
 replace h := Qf h
 refine So Tryz.func15 Y fun w0 A=>Tr<|Rq Y (Qo (cva<|ov Y) arL tZ_28<|arD fun _ => Y)<|Ra Y<|Za<|K1 1 Y<|Tr<|Ra Y<|Za<|I1 (fun out=>⟨[(1, .rp (List.map C26 f.toList) 0), (3, .own 0 out.length)], [some ⟨75, List.map R75 out⟩]⟩) h (fun h=>?_) fun out h=>?_
 ·
  refine Tr<|Rq Y (ZD (ov Y) Z7 (Zr<|Zg arL) arL)<|Rm Y<|Za<|Zn<|?_
  obtain ⟨r1, hl1, ho1⟩ := Xq h
  refine L2 (fun out2 i=>⟨[(1, .rp (List.map C26 f.toList) 0), (3, .own 0 out2.length), (7, .agg (List.map C26 f.toList)), (8, .int .i64 i)], [some ⟨75, List.map R75 out2⟩]⟩) hl1 (ES [none]) fun n1 out2 i h=>?_
  unfold Zaj at h
  refine Tr<|R2 Z4 Y<|Za<|Zs<|If h Y (fun h=>?_) fun h=>?_
  ·
   refine Zm<|Zs<|Zn<|K4 1 3 7 8 Y<|Tr<|Rm Y<|bE h fun x h_x h=>Rq Y (ZaL (ov Y) (ov Y) QI QO h_x)<|Ra Y<|Ra Y<|Za<|K6 1 3 4 5 7 8 Y<|Tr<|Rm Y<|R2 ZaJ Y<|Za<|K6 1 3 4 7 8 13 Y<|If h Y (fun h=>?_) fun h=>?_
   ·
    exact K5 1 3 4 7 8 Y<|ZC<|Rm Y<|Rm Y<|Rq Y (JZ (ys := [_, _]) Zjj Zju Zmw (.cons (cvs (ov Y)<|ZY Y)<|.cons (cvs (ov Y)<|ZY Y) .nil) Y)<|R_q (.sl 75<|List.map R75 ([(api_Flaw.mk i 5)] : List api_Flaw)) Y (X5 Zgm (.cons (cva<|ov Y) Y (pwD Y) .nil) Y Y)<|bE h fun l h_l h=>Rx Y (Zv (ov Y) (ZE (ov Y) tZ_75) Zgm Y Y Y (fun _=>Zb Y) Y h_l)<|Ra Y<|Za<|K4 1 3 7 8 Y<|ZC<|R2 Z2 Y<|Rm Y<|Za<|⟨_, h, ES [some 0]⟩
   ·
    exact Zm<|K4 1 3 7 8 Y<|ZC<|R2 Z2 Y<|Rm Y<|Za<|⟨_, h, ES [some 0]⟩
  ·
   refine ZT<|?_
   replace h := lx h ▸ ho1
   exact ⟨_, h, ES [some 0]⟩
 ·
  refine Zs<|Tr<|Rm Y<|Rq Y (ZcN (ov Y) Y Y Zgm)<|R2 ZaJ Y<|Za<|K3 1 3 22 Y<|If h Y (fun h=>?_) fun h=>?_
  ·
   refine K1 3 Y<|Tr<|Rm Y<|Ra Y<|Za<|?_
   obtain rfl := rt h
   exact Zu (ZL Y (.one<|.tmp Y<|View.ownM Y Y D75))
  ·
   refine Zm<|I1 (fun out3=>⟨[(1, .rp (List.map C26 f.toList) 0), (3, .own 0 out3.length)], [some ⟨75, List.map R75 out3⟩]⟩) h (fun h=>?_) fun out3 h=>?_
   ·
    refine K2 1 3 Y<|Td md0<|bE h fun x2 h_x2 h=>Dq 0 Y (QS (ov Y) (ov Y) QI h_x2)<|Dq 1 Y (Zh (ov Y) QO<|Zl<|Z8 (o := 0) (o' := ((Int.toNat 0) * 1)) (Zg arL)<|Z0 h_x2)<|Dq 2 Y (QR (ov Y) Zct tI3 Y)<|Dq 3 Y (ZD (ov Y) Z7 (Zr<|Zg arL) arL)<|bE h fun y h_y h=>Dq 4 Y (Zq (ZfF h_y)<|.cons (ov Y) (.aggB<|arD fun _ => Y) .nil)<|bE h fun y2 h_y2 h=>Dq 5 Y (Zq (ZgQ h_y2)<|.cons (ov Y) (.b Y) .nil)<|D2 6 XY Y<|Dd<|K3 1 3 30 Y<|If h Y (fun h=>?_) fun h=>?_
    ·
     exact K2 1 3 Y<|ZC<|Rm Y<|Rq Y (JZ (ys := [_, _]) Zjj Zju Zmw (.cons (cvs (ov Y)<|ZY Y)<|.cons (cvs (ov Y)<|ZY Y) .nil) Y)<|R_q (.sl 75<|List.map R75 ([(api_Flaw.mk 0 1)] : List api_Flaw)) Y (X5 Zgm (.cons (cva<|ov Y) Y (pwD Y) .nil) Y Y)<|bE h fun l2 h_l2 h=>Rx Y (Zv (ov Y) (ZE (ov Y) tZ_75) Zgm Y Y Y (fun _=>Zb Y) Y h_l2)<|Ra Y<|Za<|⟨_, h, ES [some 0]⟩
    ·
     exact Zm<|⟨_, h, ES [some 0]⟩
   ·
    refine I1 (fun out4=>⟨[(1, .rp (List.map C26 f.toList) 0), (3, .own 0 out4.length)], [some ⟨75, List.map R75 out4⟩]⟩) h (fun h=>?_) fun out4 h=>?_
    ·
     refine Tr<|Ra Y<|Za<|Zn<|?_
     obtain ⟨r2, hl2, ho2⟩ := Xq h
     refine L2 (fun out5 i2=>⟨[(1, .rp (List.map C26 f.toList) 0), (3, .own 0 out5.length), (6, .int .i64 i2)], [some ⟨75, List.map R75 out5⟩]⟩) hl2 (ES [some 0]) fun n2 out5 i2 h=>?_
     unfold Zan at h
     refine Zs<|Tr<|Rm Y<|R2 Z4 Y<|Za<|K4 1 3 6 36 Y<|If h Y (fun h=>?_) fun h=>?_
     ·
      refine Zm<|Zs<|Zn<|K3 1 3 6 Y<|Tr<|Rm Y<|bE h fun x3 h_x3 h=>Rq Y (QS (ov Y) (ov Y) QI h_x3)<|Rq Y (Zh (ov Y) QO<|Zl<|Z8 (o := 0) (o' := (i2.toNat * 1)) (Zg arL)<|Z0 h_x3)<|Rq Y (QR (ov Y) Zct tI3 Y)<|bE h fun y3 h_y3 h=>Rq Y (Zq (Zjr h_y3)<|.cons (ov Y) (.b Y) .nil)<|R1 Ji Y<|Za<|K4 1 3 6 44 Y<|If h Y (fun h=>?_) fun h=>?_
      ·
       exact K3 1 3 6 Y<|ZC<|Rm Y<|Rm Y<|Rq Y (JZ (ys := [_, _]) Zjj Zju Zmw (.cons (cvs (ov Y)<|ZY Y)<|.cons (cvs (ov Y)<|ZY Y) .nil) Y)<|R_q (.sl 75<|List.map R75 ([(api_Flaw.mk i2 2)] : List api_Flaw)) Y (X5 Zgm (.cons (cva<|ov Y) Y (pwD Y) .nil) Y Y)<|bE h fun l3 h_l3 h=>Rx Y (Zv (ov Y) (ZE (ov Y) tZ_75) Zgm Y Y Y (fun _=>Zb Y) Y h_l3)<|Ra Y<|Za<|K3 1 3 6 Y<|ZC<|Rm Y<|R2 Z2 Y<|Ra Y<|Za<|⟨_, h, ES [some 0]⟩
      ·
       exact Zm<|K3 1 3 6 Y<|ZC<|Rm Y<|R2 Z2 Y<|Ra Y<|Za<|⟨_, h, ES [some 0]⟩
     ·
      refine ZT<|?_
      replace h := lx h ▸ ho2
      exact ⟨_, h, ES [some 0]⟩
    ·
     refine I1 (fun out6=>⟨[(1, .rp (List.map C26 f.toList) 0), (3, .own 0 out6.length)], [some ⟨75, List.map R75 out6⟩]⟩) h (fun h=>?_) fun out6 h=>?_
     ·
      refine Td md0<|bE h fun x4 h_x4 h=>Dq 0 Y (QS (ov Y) (ov Y) QI h_x4)<|Dq 1 Y (Zh (ov Y) QO<|Zl<|Z8 (o := 0) (o' := ((Int.toNat 61) * 1)) (Zg arL)<|Z0 h_x4)<|Dq 2 Y (QR (ov Y) Zct tI3 Y)<|bE h fun q h_q h=>Dq 3 Y (XJ (ov Y) (ov Y) h_q)<|Dq 4 Y (ZD (ov Y) Z7 (Zr<|Zg arL) arL)<|bE h fun y4 h_y4 h=>Dq 5 Y (Zq (Zjp h_y4)<|.cons (ov Y) (.aggB<|arD fun _ => Y) .nil)<|D2 6 XY Y<|Dd<|K3 1 3 56 Y<|If h Y (fun h=>?_) fun h=>?_
      ·
       exact K2 1 3 Y<|ZC<|Rm Y<|Rq Y (JZ (ys := [_, _]) Zjj Zju Zmw (.cons (cvs (ov Y)<|ZY Y)<|.cons (cvs (ov Y)<|ZY Y) .nil) Y)<|R_q (.sl 75<|List.map R75 ([(api_Flaw.mk 61 3)] : List api_Flaw)) Y (X5 Zgm (.cons (cva<|ov Y) Y (pwD Y) .nil) Y Y)<|bE h fun l4 h_l4 h=>Rx Y (Zv (ov Y) (ZE (ov Y) tZ_75) Zgm Y Y Y (fun _=>Zb Y) Y h_l4)<|Ra Y<|Za<|⟨_, h, ES [some 0]⟩
      ·
       exact Zm<|⟨_, h, ES [some 0]⟩
     ·
      refine Zs<|Td md0<|bE h fun x5 h_x5 h=>Dq 0 Y (QS (ov Y) (ov Y) QI h_x5)<|Dq 1 Y (Zh (ov Y) QO<|Zl<|Z8 (o := 0) (o' := ((Int.toNat 62) * 1)) (Zg arL)<|Z0 h_x5)<|Dq 2 Y (QR (ov Y) Zct tI3 Y)<|bE h fun q2 h_q2 h=>Dq 3 Y (XJ (ov Y) (ov Y) h_q2)<|D2 4 Zdz Y<|bE h fun x6 h_x6 h=>Dq 5 Y (QS (ov Y) (ov Y) QI h_x6)<|Dq 6 Y (Zh (ov Y) QO<|Zl<|Z8 (o := 0) (o' := ((Int.toNat 63) * 1)) (Zg arL)<|Z0 h_x6)<|Dq 7 Y (QR (ov Y) Zct tI3 Y)<|bE h fun q3 h_q3 h=>Dq 8 Y (XJ (ov Y) (ov Y) h_q3)<|D2 9 Z2 Y<|Dq 10 Y (ZD (ov Y) Z7 (Zr<|Zg arL) arL)<|bE h fun y5 h_y5 h=>Dq 11 Y (Zq (Zhl h_y5)<|.cons (ov Y) (.aggB<|arD fun _ => Y) .nil)<|D2 12 XY Y<|Dd<|K2 3 73 Y<|If h Y (fun h=>?_) fun h=>?_
      ·
       refine K1 3 Y<|ZC<|Rm Y<|Rq Y (JZ (ys := [_, _]) Zjj Zju Zmw (.cons (cvs (ov Y)<|ZY Y)<|.cons (cvs (ov Y)<|ZY Y) .nil) Y)<|R_q (.sl 75<|List.map R75 ([(api_Flaw.mk 62 4)] : List api_Flaw)) Y (X5 Zgm (.cons (cva<|ov Y) Y (pwD Y) .nil) Y Y)<|bE h fun l5 h_l5 h=>Rx Y (Zv (ov Y) (ZE (ov Y) tZ_75) Zgm Y Y Y (fun _=>Zb Y) Y h_l5)<|Ra Y<|Za<|K1 3 Y<|Tr<|Rm Y<|Ra Y<|Za<|?_
       obtain rfl := rt h
       exact Zu (ZL Y (.one<|.tmp Y<|View.ownM Y Y D75))
      ·
       refine Zm<|K1 3 Y<|Tr<|Rm Y<|Ra Y<|Za<|?_
       obtain rfl := rt h
       exact Zu (ZL Y (.one<|.tmp Y<|View.ownM Y Y D75))
theorem Zev {f : Vector Int 64} {r : Bool} (h : JL f = some r) :
 CSpec Tryz.prog gl0 5 [.agg (List.map C26 f.toList)] (.bool r) := by
 unfold JL at h
 replace h := Qf h
 refine So Tryz.func5 Y fun w0 A=>Tr<|Rq Y (Qo (cva<|ov Y) arL tZ_28<|arD fun _ => Y)<|Ra Y<|Za<|K2 1 2 Y<|Tr<|Rq Y (ZD (ov Y) Z7 (Zr<|Zg arL) arL)<|bE h fun y h_y h=>Rq Y (Zq (Zhn h_y)<|.cons (ov Y) (.aggB<|arD fun _ => Y) .nil)<|Rl tZ_75 Zgm Y<|R2 QC Y<|Ra Y<|Za<|?_
 obtain rfl := rt h
 exact Zu (ZL Y (.one<|rb Y))
theorem Zce {p : api_Piece} {r : Int} (h : Xp p = some r) :
 CSpec Tryz.prog gl0 18 [.agg [.sl 5 (List.map R5 p.Bytes), .bool p.Half]] (.int .i64 r) := by
 unfold Xp at h
 replace h := Qf h
 refine So Tryz.func18 Y fun w0 A=>Tr<|Rq Y (Qo (cva<|ov Y) Y tZ_35 Y)<|Ra Y<|Za<|Zs<|K1 1 Y<|Tr<|Rq Y (ZI (ov Y) Zbm)<|Rq Y (Zh (ov Y) ZcV Y)<|Rl tZ_5 Xz Y<|R2 ZaJ Y<|Za<|K2 1 6 Y<|If h Y (fun h=>?_) fun h=>?_
 ·
  refine K0<|Tr<|Ra Y<|Za<|?_
  obtain rfl := rt h
  exact Zu (ZL Y (.one<|rb Y))
 ·
  refine Zm<|Zs<|K1 1 Y<|Tr<|Rq Y (ZI (ov Y) ZgP)<|Rq Y (Zh (ov Y) tS4 Y)<|Rm Y<|Rq Y (.guarded (p.Half == true) Y Y Y Y fun h => ZI (ov Y) Zbm)<|Rq Y (.guarded (p.Half == true) Y Y Y Y fun h => Zh (ow Y h) ZcV Y)<|Rq Y (.guarded (p.Half == true) Y Y Y Y fun h => Zcj (ZE (ow Y h) tZ_5) Xz<|Jo _ _)<|Rq Y (.guarded (p.Half == true) Y Y Y Y fun h => QC (ow Y h)<|ov Y)<|Rq Y (.guarded (p.Half == true) Y Y Y Y fun h => Zd<|ow Y h)<|Rq Y (.guarded2 ((p.Half == true) && ((decide ((p.Bytes.length : Int) = 0)) == false)) Y Y Y Y fun h => ZI (ov Y) Zbm)<|Rq Y (.guarded2 ((p.Half == true) && ((decide ((p.Bytes.length : Int) = 0)) == false)) Y Y Y Y fun h => Zh (ow Y h) ZcV Y)<|bE h fun x h_x h=>Rq Y (.guarded2 ((p.Half == true) && ((decide ((p.Bytes.length : Int) = 0)) == false)) Y Y Y Y fun h => ZX (ow Y h) (ov Y) Xz<|gdT h_x h)<|Rq Y (.guarded2 ((p.Half == true) && ((decide ((p.Bytes.length : Int) = 0)) == false)) Y Y Y Y fun h => Zh (ow Y h) tS5 Y)<|Rq Y (.guarded2 ((p.Half == true) && ((decide ((p.Bytes.length : Int) = 0)) == false)) Y Y Y Y fun h => ZaJ (ow Y h)<|ov Y)<|Rq Y (.guarded (p.Half == true) Y Y Y Y fun h => JH (ow Y h) fun hp=>ow Y<|gA h<|gF hp)<|Rq Y (XU (ov Y) fun hp=>ow Y<|gT hp)<|Za<|K1 21 Y<|If h Y (fun h=>?_) fun h=>?_
  ·
   refine K0<|Tr<|Ra Y<|Za<|?_
   obtain rfl := rt h
   exact Zu (ZL Y (.one<|rb Y))
  ·
   refine Zm<|K0<|Tr<|Ra Y<|Za<|?_
   obtain rfl := rt h
   exact Zu (ZL Y (.one<|rb Y))
theorem Zd2 {p : api_Piece} {r : (List Int)} (h : XQ p = some r) :
 CSpec Tryz.prog gl0 20 [.agg [.sl 5 (List.map R5 p.Bytes), .bool p.Half]] (.sl 5 (List.map R5 r)) := by
 unfold XQ at h
 replace h := Qf h
 refine So Tryz.func20 Y fun w0 A=>Tr<|Rq Y (Qo (cva<|ov Y) Y tZ_35 Y)<|Ra Y<|Za<|K1 1 Y<|Tr<|Ra Y<|Za<|I1 (fun out=>⟨[(3, .own 0 out.length)], [some ⟨5, List.map R5 out⟩]⟩) h (fun h=>?_) fun out h=>?_
 ·
  refine Tr<|Rq Y (ZI (ov Y) Zbm)<|Rq Y (Zh (ov Y) ZcV Y)<|Rl tZ_5 Xz Y<|Rm Y<|Za<|Zn<|?_
  obtain ⟨r1, hl1, ho1⟩ := Xq h
  refine L2 (fun out2 i=>⟨[(1, .rp [.sl 5 (List.map R5 p.Bytes), .bool p.Half] 0), (3, .own 0 out2.length), (7, .sl 5 (List.map R5 p.Bytes)), (8, .int .i64 (p.Bytes.length : Int)), (9, .int .i64 i)], [some ⟨5, List.map R5 out2⟩]⟩) hl1 (ES [none]) fun n1 out2 i h=>?_
  unfold JT at h
  refine Tr<|R2 Z4 Y<|Za<|Zs<|If h Y (fun h=>?_) fun h=>?_
  ·
   refine Zm<|Zs<|Zn<|K5 1 3 7 8 9 Y<|Tr<|Rm Y<|bE h fun x h_x h=>Rq Y (ZX (ov Y) (ov Y) Xz h_x)<|Rq Y (Zh (ov Y) tS5 Y)<|Ra Y<|Ra Y<|Za<|I1 (fun out3=>⟨[(1, .rp [.sl 5 (List.map R5 p.Bytes), .bool p.Half] 0), (3, .own 0 out3.length), (5, .int .u8 x), (7, .sl 5 (List.map R5 p.Bytes)), (8, .int .i64 (p.Bytes.length : Int)), (9, .int .i64 i)], [some ⟨5, List.map R5 out3⟩]⟩) h (fun h=>?_) fun out3 h=>?_
   ·
    refine K7 1 3 4 5 7 8 9 Y<|Tr<|Rm Y<|R2 ZaJ Y<|Rm Y<|Rq Y (.guarded ((decide (0 < i)) == false) Y Y Y Y fun h => ZI (ov Y) ZgP)<|Rq Y (.guarded ((decide (0 < i)) == false) Y Y Y Y fun h => Zh (ow Y h) tS4 Y)<|Rq Y (.guarded ((decide (0 < i)) == false) Y Y Y Y fun h => Ji<|ow Y h)<|Rq Y (JH (ov Y) fun hp=>ow Y<|gF hp)<|Za<|K7 1 3 5 7 8 9 20 Y<|If h Y (fun h=>?_) fun h=>?_
    ·
     exact K6 1 3 5 7 8 9 Y<|ZC<|Rm Y<|Rm Y<|bE h fun q h_q h=>Rq Y (Zcd (ov Y) (ov Y) h_q)<|R_q (.sl 5<|List.map R5 ([q] : List Int)) Y (X5 Xz (.cons (cvs (ov Y)<|ZY Y) Y (.cons (.b Y) .nil) .nil) Y Y)<|bE h fun l h_l h=>Rx Y (Zv (ov Y) (ZE (ov Y) tZ_5) Xz Y Y Y (fun _=>Zb Y) Y h_l)<|Ra Y<|Za<|⟨_, h, ES [some 0]⟩
    ·
     exact Zm<|⟨_, h, ES [some 0]⟩
   ·
    exact ZC<|Rm Y<|Rm Y<|bE h fun q2 h_q2 h=>Rq Y (XJ (ov Y) (ov Y) h_q2)<|R_q (.sl 5<|List.map R5 ([q2] : List Int)) Y (X5 Xz (.cons (cvs (ov Y)<|ZY Y) Y (.cons (.b Y) .nil) .nil) Y Y)<|bE h fun l2 h_l2 h=>Rx Y (Zv (ov Y) (ZE (ov Y) tZ_5) Xz Y Y Y (fun _=>Zb Y) Y h_l2)<|Ra Y<|Za<|K5 1 3 7 8 9 Y<|ZC<|R2 Z2 Y<|Rm Y<|Za<|⟨_, h, ES [some 0]⟩
  ·
   refine ZT<|?_
   replace h := lx h ▸ ho1
   exact ⟨_, h, ES [some 0]⟩
 ·
  refine Tr<|Rm Y<|Ra Y<|Za<|?_
  obtain rfl := rt h
  exact Zu (ZL Y (.one<|.tmp Y<|View.ownM Y Y D5))
theorem Zgd {h_ : List Int} {at_ : Int} {r : (Vector Int 64) × (Vector Bool 64)} (h : Jm h_ at_ = some r) :
 CSpec Tryz.prog gl0 39 [.sl 5 (List.map R5 h_), .int .i64 at_] (.tuple [.agg (List.map C26 r.1.toList), .agg (List.map C4 r.2.toList)]) := by
 unfold Jm at h
 replace h := Qf h
 refine So Tryz.func39 Y fun w0 A=>Tr<|Rx Y (ZP (row := (List.map C26 (Vector.replicate 64 0).toList)) 0 Y ZbV Y tZ_28)<|Rx Y (ZP (row := (List.map C4 (Vector.replicate 64 false).toList)) 1 Y ZkC Y tZ_80)<|Za<|Tr<|R_q (.agg<|List.map C26 (#v[0, 0, 0, 0, 0, 0, 0, 0, 0, 0, 0, 0, 0, 0, 0, 0, 0, 0, 0, 0, 0, 0, 0, 0, 0, 0, 0, 0, 0, 0, 0, 0, 0, 0, 0, 0, 0, 0, 0, 0, 0, 0, 0, 0, 0, 0, 0, 0, 0, 0, 0, 0, 0, 0, 0, 0, 0, 0, 0, 0, 0, 0, 0, 0] : Vector Int 64).toList) Y (ZaU (ys := [_, _, _, _, _, _, _, _, _, _, _, _, _, _, _, _, _, _, _, _, _, _, _, _, _, _, _, _, _, _, _, _, _, _, _, _, _, _, _, _, _, _, _, _, _, _, _, _, _, _, _, _, _, _, _, _, _, _, _, _, _, _, _, _]) QI ZbV .nil Y)<|R_q (.agg<|List.map C4 (#v[false, false, false, false, false, false, false, false, false, false, false, false, false, false, false, false, false, false, false, false, false, false, false, false, false, false, false, false, false, false, false, false, false, false, false, false, false, false, false, false, false, false, false, false, false, false, false, false, false, false, false, false, false, false, false, false, false, false, false, false, false, false, false, false] : Vector Bool 64).toList) Y (ZaU (ys := [_, _, _, _, _, _, _, _, _, _, _, _, _, _, _, _, _, _, _, _, _, _, _, _, _, _, _, _, _, _, _, _, _, _, _, _, _, _, _, _, _, _, _, _, _, _, _, _, _, _, _, _, _, _, _, _, _, _, _, _, _, _, _, _]) ZjR ZkC .nil Y)<|Rx Y (ZP (row := (List.map C26 (Vector.replicate 64 0).toList)) 2 Y ZbV Y tZ_28)<|Rx Y (ZP (row := (List.map C4 (Vector.replicate 64 false).toList)) 3 Y ZkC Y tZ_80)<|Rx Y (Ze (ov Y) (ov Y) (Zo Z7 arL) Y Y Y (ZF (Zg arL) arL) (Zb<|arC fun _ => Y)<|ZK<|Eq.trans arL<|Eq.symm arL)<|Rx Y (Ze (ov Y) (ov Y) (Zo ZdP arL) Y Y Y (ZF (Zg arL) arL) (Zb<|arC fun _ => Y)<|ZK<|Eq.trans arL<|Eq.symm arL)<|Za<|I2 (fun f whole=>⟨[(4, .ptr 0 1 0 0), (5, .ptr 1 1 0 0), (6, .ptr 2 1 0 0), (7, .ptr 3 1 0 0)], [some ⟨28, [(List.map C26 (Vector.replicate 64 0).toList)]⟩, some ⟨80, [(List.map C4 (Vector.replicate 64 false).toList)]⟩, some ⟨28, [(List.map C26 f.toList)]⟩, some ⟨80, [(List.map C4 whole.toList)]⟩]⟩) h (fun h=>?_) fun f whole h=>?_
 ·
  refine K6 0 1 4 5 6 7 Y<|Tr<|Rm Y<|Za<|Zn<|?_
  obtain ⟨r1, hl1, ho1⟩ := Xq h
  refine L3 (fun f2 whole2 i=>⟨[(0, .sl 5 (List.map R5 h_)), (1, .int .i64 at_), (4, .ptr 0 1 0 0), (5, .ptr 1 1 0 0), (6, .ptr 2 1 0 0), (7, .ptr 3 1 0 0), (12, .int .i64 i)], [some ⟨28, [(List.map C26 (Vector.replicate 64 0).toList)]⟩, some ⟨80, [(List.map C4 (Vector.replicate 64 false).toList)]⟩, some ⟨28, [(List.map C26 f2.toList)]⟩, some ⟨80, [(List.map C4 whole2.toList)]⟩]⟩) hl1 (ES [some 0, some 1, some 2, some 3]) fun n1 f2 whole2 i h=>?_
  unfold QY at h
  refine Tr<|R2 Z4 Y<|Za<|Zs<|If h Y (fun h=>?_) fun h=>?_
  ·
   refine Zm<|Zs<|Zn<|K7 0 1 4 5 6 7 12 Y<|Tr<|Rm Y<|Ra Y<|Za<|K8 0 1 4 5 6 7 8 12 Y<|Tr<|Rm Y<|Rm Y<|R2 Zdz Y<|R2 Z2 Y<|Ra Y<|Za<|Zs<|K9 0 1 4 5 6 7 8 9 12 Y<|Tr<|Rm Y<|R2 Z4 Y<|Rm Y<|Rq Y (.guarded ((decide ((i64 (at_ + (i64 (3 * i)))) < 0)) == false) Y Y Y Y fun h => Zd<|ov Y)<|Rq Y (.guarded ((decide ((i64 (at_ + (i64 (3 * i)))) < 0)) == false) Y Y Y Y fun h => ZhD (ow Y h) (ov Y) Y)<|Rq Y (.guarded ((decide ((i64 (at_ + (i64 (3 * i)))) < 0)) == false) Y Y Y Y fun h => Zd<|ov Y)<|Rq Y (.guarded ((decide ((i64 (at_ + (i64 (3 * i)))) < 0)) == false) Y Y Y Y fun h => Zcj (ZE (ow Y h) tZ_5) Xz<|Jo _ _)<|Rq Y (.guarded ((decide ((i64 (at_ + (i64 (3 * i)))) < 0)) == false) Y Y Y Y fun h => ZaJ (ow Y h)<|ow Y h)<|Rq Y (JH (ov Y) fun hp=>ow Y<|gF hp)<|Za<|K10 0 1 4 5 6 7 8 9 12 27 Y<|If h Y (fun h=>?_) fun h=>?_
   ·
    exact ZT<|K7 0 1 4 5 6 7 12 Y<|ZC<|R2 Z2 Y<|Rm Y<|Za<|⟨_, h, ES [some 0, some 1, some 2, some 3]⟩
   ·
    exact Zm<|K9 0 1 4 5 6 7 8 9 12 Y<|Tr<|Rm Y<|bE h fun x h_x h=>Rq Y (Z5 (ov Y) (ov Y) ZjR Y Y h_x)<|Rx Y (Ze (ov Y) (ov Y) (Zf tS4) Y Y Y (arB h_x) (Zb Y)<|arS h_x)<|Za<|K9 0 1 4 5 6 7 8 9 12 Y<|Zac (cw := md0) (by kernel_rfl)<|D1 0 Zd Y<|D1 1 Zd Y<|D1 2 Zd Y<|bE h fun x2 h_x2 h=>Dq 3 Y (ZX (ov Y) (ov Y) Xz h_x2)<|Dq 4 Y (Zh (ov Y) tS5 Y)<|Dq 5 Y (QR (ov Y) tI5 Zct Y)<|D2 6 Zdz Y<|D1 7 Zd Y<|D1 8 Zd Y<|D2 9 Z2 Y<|bE h fun x3 h_x3 h=>Dq 10 Y (ZX (ov Y) (ov Y) Xz h_x3)<|Dq 11 Y (Zh (ov Y) tS5 Y)<|Dq 12 Y (QR (ov Y) tI5 Zct Y)<|D2 13 Zdz Y<|D2 14 Z2 Y<|D1 15 Zd Y<|D1 16 Zd Y<|D2 17 Z2 Y<|bE h fun x4 h_x4 h=>Dq 18 Y (ZX (ov Y) (ov Y) Xz h_x4)<|Dq 19 Y (Zh (ov Y) tS5 Y)<|Dq 20 Y (QR (ov Y) tI5 Zct Y)<|D2 21 Z2 Y<|bE h fun x5 h_x5 h=>Dq 22 Y (Z5 (ov Y) (ov Y) QI Y Y h_x5)<|Do 23 Y (Ze (ov Y) (ov Y) (Zf QO) Y Y Y (arB h_x5) (Zb Y)<|arS h_x5)<|Dd<|K7 0 1 4 5 6 7 12 Y<|ZC<|R2 Z2 Y<|Rm Y<|Za<|⟨_, h, ES [some 0, some 1, some 2, some 3]⟩
  ·
   refine ZT<|?_
   replace h := lx h ▸ ho1
   exact ⟨_, h, ES [some 0, some 1, some 2, some 3]⟩
 ·
  refine Td md0<|Dq 0 Y (ZB (ov Y) Y Y Y Z7 (Zr<|Zg arL) arL (hns := (nsM fun _ => Y)))<|Dw 1 2 Y (ZB (ov Y) Y Y Y ZdP (Zr<|Zg arL) arL (hns := (nsM fun _ => Y))) (Ze (ov Y) (ov Y) (Zo Z7 arL) Y Y Y (ZF (Zg arL) arL) (Zb<|arC fun _ => Y)<|ZK<|Eq.trans arL<|Eq.symm arL) ?_ ?_
  ·
   refine Do 2 Y (Ze (ov Y) (ov Y) (Zo Z7 arL) Y Y Y (ZF (Zg arL) arL) (Zb<|arC fun _ => Y)<|ZK<|Eq.trans arL<|Eq.symm arL)<|Do 3 Y (Ze (ov Y) (ov Y) (Zo ZdP arL) Y Y Y (ZF (Zg arL) arL) (Zb<|arC fun _ => Y)<|ZK<|Eq.trans arL<|Eq.symm arL)<|Dd<|?_
   obtain rfl := rt h
   exact Zu (ZL Y (.two (.agg Y Y Y Y Z7 (Zr<|Zg arL) arL (pwB<|arD fun _ => Y) (hns := (nsM fun _ => Y)))<|.agg Y Y Y Y ZdP (Zr<|Zg arL) arL (pwB<|arD fun _ => Y) (hns := (nsM fun _ => Y))))
  ·
   refine Dq 1 Y (ZB (ov Y) Y Y Y ZdP (Zr<|Zg arL) arL (hns := (nsM fun _ => Y)))<|Do 3 Y (Ze (ov Y) (ov Y) (Zo ZdP arL) Y Y Y (ZF (Zg arL) arL) (Zb<|arC fun _ => Y)<|ZK<|Eq.trans arL<|Eq.symm arL)<|Dd<|?_
   obtain rfl := rt h
   exact Zu (ZL Y (.two (.agg Y Y Y Y Z7 (Zr<|Zg arL) arL (pwB<|arD fun _ => Y) (hns := (nsM fun _ => Y)))<|.agg Y Y Y Y ZdP (Zr<|Zg arL) arL (pwB<|arD fun _ => Y) (hns := (nsM fun _ => Y))))
theorem Zh5 {h_ : List Int} {r : (List api_Found)} (h : Zb6 h_ = some r) :
 CSpec Tryz.prog gl0 19 [.sl 5 (List.map R5 h_)] (.sl 51 (List.map R51 r)) := by
 unfold Zb6 at h
 replace h := Qf h
 refine So Tryz.func19 Y fun w0 A=>Tr<|Ra Y<|Za<|K1 0 Y<|Tr<|Ra Y<|Za<|I1 (fun out=>⟨[(3, .own 0 out.length)], [some ⟨51, List.map R51 out⟩]⟩) h (fun h=>?_) fun out h=>?_
 ·
  refine Tr<|Ra Y<|Za<|Zn<|?_
  obtain ⟨r1, hl1, ho1⟩ := Xq h
  refine L2 (fun out2 at_=>⟨[(0, .sl 5 (List.map R5 h_)), (3, .own 0 out2.length), (4, .int .i64 at_)], [some ⟨51, List.map R51 out2⟩]⟩) hl1 (ES [none]) fun n1 out2 at_ h=>?_
  unfold Zbh at h
  refine Zs<|Tr<|Rm Y<|R2 Z2 Y<|Rm Y<|Rl tZ_5 Xz Y<|R2 Zf5 Y<|Za<|K4 0 3 4 12 Y<|If h Y (fun h=>?_) fun h=>?_
  ·
   refine Zm<|I1 (fun out3=>⟨[(0, .sl 5 (List.map R5 h_)), (3, .own 0 out3.length), (4, .int .i64 at_)], [some ⟨51, List.map R51 out3⟩]⟩) h (fun h=>?_) fun out3 h=>?_
   ·
    refine Zn<|K3 0 3 4 Y<|Td md0<|D1 0 Zd Y<|D1 1 Zd Y<|bE h fun x h_x h=>Dq 2 Y (ZX (ov Y) (ov Y) Xz h_x)<|Dq 3 Y (Zh (ov Y) tS5 Y)<|Dq 4 Y (QR (ov Y) tI5 tI3 Y)<|D2 5 Zdz Y<|D1 6 Zd Y<|D1 7 Zd Y<|D2 8 Z2 Y<|bE h fun x2 h_x2 h=>Dq 9 Y (ZX (ov Y) (ov Y) Xz h_x2)<|Dq 10 Y (Zh (ov Y) tS5 Y)<|Dq 11 Y (QR (ov Y) tI5 tI3 Y)<|D2 12 Zdz Y<|D2 13 Z2 Y<|D1 14 Zd Y<|D1 15 Zd Y<|D2 16 Z2 Y<|bE h fun x3 h_x3 h=>Dq 17 Y (ZX (ov Y) (ov Y) Xz h_x3)<|Dq 18 Y (Zh (ov Y) tS5 Y)<|Dq 19 Y (QR (ov Y) tI5 tI3 Y)<|D2 20 Z2 Y<|D1 21 QE Y<|Dd<|Zs<|K4 0 3 4 5 Y<|Tr<|Rm Y<|R2 XY Y<|Rm Y<|Rq Y (.guarded ((!decide ((i64 ((i64 ((i64 ((i64 x) * 256)) + (i64 ((i64 x2) * 16)))) + (i64 x3))) = 583)) == true) Y Y Y Y fun h => Zd<|ov Y)<|Rq Y (.guarded ((!decide ((i64 ((i64 ((i64 ((i64 x) * 256)) + (i64 ((i64 x2) * 16)))) + (i64 x3))) = 583)) == true) Y Y Y Y fun h => XY (ow Y h)<|ov Y)<|Rq Y (XU (ov Y) fun hp=>ow Y<|gT hp)<|Rm Y<|Rq Y (.guarded (((!decide ((i64 ((i64 ((i64 ((i64 x) * 256)) + (i64 ((i64 x2) * 16)))) + (i64 x3))) = 583)) && (!decide ((i64 ((i64 ((i64 ((i64 x) * 256)) + (i64 ((i64 x2) * 16)))) + (i64 x3))) = 1464))) == true) Y Y Y Y fun h => Zd<|ov Y)<|Rq Y (.guarded (((!decide ((i64 ((i64 ((i64 ((i64 x) * 256)) + (i64 ((i64 x2) * 16)))) + (i64 x3))) = 583)) && (!decide ((i64 ((i64 ((i64 ((i64 x) * 256)) + (i64 ((i64 x2) * 16)))) + (i64 x3))) = 1464))) == true) Y Y Y Y fun h => XY (ow Y h)<|ov Y)<|Rq Y (XU (ov Y) fun hp=>ow Y<|gT hp)<|Rm Y<|Rq Y (.guarded ((((!decide ((i64 ((i64 ((i64 ((i64 x) * 256)) + (i64 ((i64 x2) * 16)))) + (i64 x3))) = 583)) && (!decide ((i64 ((i64 ((i64 ((i64 x) * 256)) + (i64 ((i64 x2) * 16)))) + (i64 x3))) = 1464))) && (!decide ((i64 ((i64 ((i64 ((i64 x) * 256)) + (i64 ((i64 x2) * 16)))) + (i64 x3))) = 2631))) == true) Y Y Y Y fun h => Zd<|ov Y)<|Rq Y (.guarded ((((!decide ((i64 ((i64 ((i64 ((i64 x) * 256)) + (i64 ((i64 x2) * 16)))) + (i64 x3))) = 583)) && (!decide ((i64 ((i64 ((i64 ((i64 x) * 256)) + (i64 ((i64 x2) * 16)))) + (i64 x3))) = 1464))) && (!decide ((i64 ((i64 ((i64 ((i64 x) * 256)) + (i64 ((i64 x2) * 16)))) + (i64 x3))) = 2631))) == true) Y Y Y Y fun h => XY (ow Y h)<|ov Y)<|Rq Y (XU (ov Y) fun hp=>ow Y<|gT hp)<|Za<|K4 0 3 4 49 Y<|If h Y (fun h=>?_) fun h=>?_
    ·
     exact ZT<|⟨_, h, ES [some 0]⟩
    ·
     refine Zm<|K3 0 3 4 Y<|Tr<|Rm Y<|Rm Y<|bE h fun y h_y h=>Rq Y (Zq (Zgd h_y)<|.cons (ov Y) (.b Y)<|.cons (ov Y) (.b Y) .nil)<|Rm Y<|Rq Y (Zi (ov Y) Y)<|Rq Y (Zi (ov Y) Y)<|Rx Y (ZP (row := (List.map C26 (Vector.replicate 64 0).toList)) 1 Y ZbV Y tZ_28)<|Rx Y (ZP (row := (List.map C4 (Vector.replicate 64 false).toList)) 2 Y ZkC Y tZ_80)<|Rx Y (Ze (ov Y) (ov Y) (Zo Z7 arL) Y Y Y (ZF (Zg arL) arL) (Zb<|arC fun _ => Y)<|ZK<|Eq.trans arL<|Eq.symm arL)<|Rx Y (Ze (ov Y) (ov Y) (Zo ZdP arL) Y Y Y (ZF (Zg arL) arL) (Zb<|arC fun _ => Y)<|ZK<|Eq.trans arL<|Eq.symm arL)<|Za<|K4 0 3 4 6 Y<|Tr<|Rq Y (ZB (ov Y) Y Y Y Z7 (Zr<|Zg arL) arL (hns := (nsM fun _ => Y)))<|bE h fun y2 h_y2 h=>Rq Y (Zq (Zev h_y2)<|.cons (ov Y) (.aggB<|arD fun _ => Y) .nil)<|Za<|K5 0 3 4 6 57 Y<|If h Y (fun h=>?_) fun h=>?_
     ·
      exact K4 0 3 4 6 Y<|ZC<|Rm Y<|Rm Y<|Rq Y (ZB (ov Y) Y Y Y Z7 (Zr<|Zg arL) arL (hns := (nsM fun _ => Y)))<|Rq Y (Zcb (zr := (.int .i64 0) :: ((List.map C26 (Vector.replicate 64 0).toList) ++ ([]))) ZnD ZnN ZjB (by kernel_rfl) (.cons (cvs (ov Y)<|ZY Y)<|.cons (cva<|ov Y) .nil)<|JC Y Y QK pt1<|JC Y arL at2 pt3 ZeI)<|R_q (.sl 51<|List.map R51 ([(api_Found.mk at_ y.1)] : List api_Found)) Y (X5 Je (.cons (cva<|ov Y) ln4 (pwD al5) .nil) Y Y)<|bE h fun l h_l h=>Rx Y (Zv (ov Y) (ZE (ov Y) tZ_51) Je Y Y Y (fun x=>Zb<|E51 x) Y h_l)<|Ra Y<|Za<|⟨_, h, ES [some 0]⟩
     ·
      exact Zm<|⟨_, h, ES [some 0]⟩
   ·
    exact ZC<|Rm Y<|R2 Z2 Y<|Ra Y<|Za<|⟨_, h, ES [some 0]⟩
  ·
   refine ZT<|?_
   replace h := lx h ▸ ho1
   exact ⟨_, h, ES [some 0]⟩
 ·
  refine Tr<|Rm Y<|Ra Y<|Za<|?_
  obtain rfl := rt h
  exact Zu (ZL Y (.one<|.tmp Y<|View.ownM Y Y D51))
theorem Zdd {p : api_Piece} {r : (List api_Found) × Int} (h : Zbr p = some r) :
 CSpec Tryz.prog gl0 8 [.agg [.sl 5 (List.map R5 p.Bytes), .bool p.Half]] (.tuple [.sl 51 (List.map R51 r.1), .int .i64 r.2]) := by
 unfold Zbr at h
 replace h := Qf h
 refine So Tryz.func8 Y fun w0 A=>Tr<|Rq Y (Qo (cva<|ov Y) Y tZ_35 Y)<|Ra Y<|Ra Y<|Za<|Zs<|K1 1 Y<|Tr<|Rq Y (ZD (ov Y) XL Y Y)<|bE h fun y h_y h=>Rq Y (Zq (Zce h_y)<|.cons (ov Y) (.aggB Y) .nil)<|Ra Y<|Za<|K2 1 4 Y<|Tr<|Rm Y<|R2 XY Y<|Za<|K3 1 4 8 Y<|If h Y (fun h=>?_) fun h=>?_
 ·
  refine K1 4 Y<|Tr<|Rm Y<|Ra Y<|Ra Y<|Za<|?_
  obtain rfl := rt h
  exact Zu (ZL Y (.two (.tmp Y<|View.nils 51)<|rb Y))
 ·
  refine Zm<|K1 1 Y<|Tr<|Rq Y (ZD (ov Y) XL Y Y)<|bE h fun y2 h_y2 h=>Rq Y (Zq (Zd2 h_y2)<|.cons (ov Y) (.aggB Y) .nil)<|bE h fun y3 h_y3 h=>Rq Y (Zq (Zh5 h_y3)<|.cons (ov Y) (.b Y) .nil)<|Ra Y<|Ra Y<|Za<|?_
  obtain rfl := rt h
  exact Zu (ZL Y (.two (rb Y)<|rb Y))
end Go.Proofs.YteljlmpmdplgmaaGreatDoor
