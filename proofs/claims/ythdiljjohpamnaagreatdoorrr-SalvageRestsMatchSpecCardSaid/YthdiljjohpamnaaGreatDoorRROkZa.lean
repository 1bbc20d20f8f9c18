/- A text of the proof: a verified executor of the program form, or the contracts of the functions that the law reaches. -/
import Derived.Test.YthdiljjohpamnaaGreatDoorRRVS
import Derived.Test.YthdiljjohpamnaaGreatDoorRRPA
import Derived.Test.YthdiljjohpamnaaGreatDoorRRShT
import Derived.Test.YthdiljjohpamnaaGreatDoorRRProg
import Derived.Test.YthdiljjohpamnaaGreatDoorRRLayZ
set_option linter.all false
namespace Go.Proofs.YthdiljjohpamnaaGreatDoorRR
open Go Go.Vx
set_option maxRecDepth 10000
set_option maxHeartbeats 1000000
set_option linter.unusedVariables false
theorem tZ_5 : Tryz.prog.cellsOf 5 = 1 := by kernel_rfl
instance : SzD Tryz.prog 5 1 := ⟨tZ_5⟩
theorem tZ_68 : Tryz.prog.cellsOf 68 = 2 := by kernel_rfl
instance : SzD Tryz.prog 68 2 := ⟨tZ_68⟩
theorem tA68 : tAgg Tryz.prog 68 2 = true := by kernel_rfl
theorem tF68_0 : tFld Tryz.prog 68 0 0 = true := by kernel_rfl
theorem tS66 : tScal Tryz.prog 66 = true := by kernel_rfl
theorem tL66 : tSl Tryz.prog 66 5 1 1 = true := by kernel_rfl
theorem tF68_1 : tFld Tryz.prog 68 1 1 = true := by kernel_rfl
theorem tS4 : tScal Tryz.prog 4 = true := by kernel_rfl
theorem tS5 : tScal Tryz.prog 5 = true := by kernel_rfl
theorem tZ5 : zeroOf Tryz.prog 5 = some [.int .u8 0] := by kernel_rfl
theorem tZ_158 : Tryz.prog.cellsOf 158 = 65 := by kernel_rfl
instance : SzD Tryz.prog 158 65 := ⟨tZ_158⟩
theorem tZ_153 : Tryz.prog.cellsOf 153 = 1 := by kernel_rfl
instance : SzD Tryz.prog 153 1 := ⟨tZ_153⟩
theorem tI5 : tInt Tryz.prog 5 .u8 = true := by kernel_rfl
theorem tI47 : tInt Tryz.prog 47 .u16 = true := by kernel_rfl
theorem tR187 : tArr Tryz.prog 187 4 47 1 = true := by kernel_rfl
theorem tS47 : tScal Tryz.prog 47 = true := by kernel_rfl
theorem tI3 : tInt Tryz.prog 3 .i64 = true := by kernel_rfl
theorem tR261 : tArr Tryz.prog 261 192 5 1 = true := by kernel_rfl
theorem tA261 : tAgg Tryz.prog 261 192 = true := by kernel_rfl
theorem tZ_261 : Tryz.prog.cellsOf 261 = 192 := by kernel_rfl
instance : SzD Tryz.prog 261 192 := ⟨tZ_261⟩
theorem tZ49 : zeroOf Tryz.prog 49 = some [.int .u16 0, .int .u16 0, .int .u16 0, .int .u16 0, .int .u16 0, .int .u16 0, .int .u16 0, .int .u16 0, .int .u16 0, .int .u16 0, .int .u16 0, .int .u16 0, .int .u16 0, .int .u16 0, .int .u16 0, .int .u16 0, .int .u16 0, .int .u16 0, .int .u16 0, .int .u16 0, .int .u16 0, .int .u16 0, .int .u16 0, .int .u16 0, .int .u16 0, .int .u16 0, .int .u16 0, .int .u16 0, .int .u16 0, .int .u16 0, .int .u16 0, .int .u16 0, .int .u16 0, .int .u16 0, .int .u16 0, .int .u16 0, .int .u16 0, .int .u16 0, .int .u16 0, .int .u16 0, .int .u16 0, .int .u16 0, .int .u16 0, .int .u16 0, .int .u16 0, .int .u16 0, .int .u16 0, .int .u16 0, .int .u16 0, .int .u16 0, .int .u16 0, .int .u16 0, .int .u16 0, .int .u16 0, .int .u16 0, .int .u16 0, .int .u16 0, .int .u16 0, .int .u16 0, .int .u16 0, .int .u16 0, .int .u16 0, .int .u16 0, .int .u16 0] := by kernel_rfl
theorem tZ_49 : Tryz.prog.cellsOf 49 = 64 := by kernel_rfl
instance : SzD Tryz.prog 49 64 := ⟨tZ_49⟩
theorem tR49 : tArr Tryz.prog 49 64 47 1 = true := by kernel_rfl
theorem tA49 : tAgg Tryz.prog 49 64 = true := by kernel_rfl
theorem tStr9 : tStr Tryz.prog 9 = true := by kernel_rfl
theorem tB4 : (match Tryz.prog.underlying 4 with | some .bool => true | _ => false) = true := by kernel_rfl
theorem tZ_66 : Tryz.prog.cellsOf 66 = 1 := by kernel_rfl
instance : SzD Tryz.prog 66 1 := ⟨tZ_66⟩
theorem tZ153 : zeroOf Tryz.prog 153 = some [.slice none 0 0] := by kernel_rfl
theorem tS153 : tScal Tryz.prog 153 = true := by kernel_rfl
theorem tPL158 : structPl Tryz.prog 158 = some [(0, 1), (1, 64)] := by kernel_rfl
theorem tHA158 : hasAll Tryz.prog 158 = true := by kernel_rfl
theorem tZ158 : zeroOf Tryz.prog 158 = some ([.int .i64 0] ++ (List.flatten (List.replicate 64 [.int .u16 0]))) := by kernel_rfl
theorem tL153 : tSl Tryz.prog 153 158 65 136 = true := by kernel_rfl
theorem tA158 : tAgg Tryz.prog 158 65 = true := by kernel_rfl
theorem tF158_0 : tFld Tryz.prog 158 0 0 = true := by kernel_rfl
theorem tS3 : tScal Tryz.prog 3 = true := by kernel_rfl
theorem tMp154 : tMap Tryz.prog 154 3 3 = true := by kernel_rfl
theorem tPL156 : structPl Tryz.prog 156 = some [(0, 1), (1, 1), (2, 1), (3, 1)] := by kernel_rfl
theorem tHA156 : hasAll Tryz.prog 156 = true := by kernel_rfl
theorem tZ156 : zeroOf Tryz.prog 156 = some [.slice none 0 0, .slice none 0 0, .slice none 0 0, .map none] := by kernel_rfl
theorem tA156 : tAgg Tryz.prog 156 4 = true := by kernel_rfl
theorem tF156_1 : tFld Tryz.prog 156 1 1 = true := by kernel_rfl
theorem tZV3 : zeroV Tryz.prog 3 = some (.int .i64 0) := by kernel_rfl
theorem tF158_1 : tFld Tryz.prog 158 1 1 = true := by kernel_rfl
theorem tF156_3 : tFld Tryz.prog 156 3 3 = true := by kernel_rfl
theorem tS154 : tScal Tryz.prog 154 = true := by kernel_rfl
theorem tF156_2 : tFld Tryz.prog 156 2 2 = true := by kernel_rfl
theorem tS28 : tScal Tryz.prog 28 = true := by kernel_rfl
theorem tL28 : tSl Tryz.prog 28 3 1 8 = true := by kernel_rfl
theorem tZ_3 : Tryz.prog.cellsOf 3 = 1 := by kernel_rfl
instance : SzD Tryz.prog 3 1 := ⟨tZ_3⟩
theorem tZ_156 : Tryz.prog.cellsOf 156 = 4 := by kernel_rfl
instance : SzD Tryz.prog 156 4 := ⟨tZ_156⟩
theorem tZ_154 : Tryz.prog.cellsOf 154 = 1 := by kernel_rfl
instance : SzD Tryz.prog 154 1 := ⟨tZ_154⟩
theorem tZ72 : zeroOf Tryz.prog 72 = some [.int .i64 0, .int .i64 0, .int .i64 0, .int .i64 0, .int .i64 0, .int .i64 0, .int .i64 0, .int .i64 0, .int .i64 0, .int .i64 0, .int .i64 0, .int .i64 0, .int .i64 0, .int .i64 0, .int .i64 0, .int .i64 0, .int .i64 0, .int .i64 0, .int .i64 0, .int .i64 0, .int .i64 0, .int .i64 0, .int .i64 0, .int .i64 0, .int .i64 0, .int .i64 0, .int .i64 0, .int .i64 0, .int .i64 0, .int .i64 0, .int .i64 0, .int .i64 0, .int .i64 0, .int .i64 0, .int .i64 0, .int .i64 0, .int .i64 0, .int .i64 0, .int .i64 0, .int .i64 0, .int .i64 0, .int .i64 0, .int .i64 0, .int .i64 0, .int .i64 0, .int .i64 0, .int .i64 0, .int .i64 0, .int .i64 0, .int .i64 0, .int .i64 0, .int .i64 0, .int .i64 0, .int .i64 0, .int .i64 0, .int .i64 0, .int .i64 0, .int .i64 0, .int .i64 0, .int .i64 0, .int .i64 0, .int .i64 0, .int .i64 0, .int .i64 0] := by kernel_rfl
theorem tZ_72 : Tryz.prog.cellsOf 72 = 64 := by kernel_rfl
instance : SzD Tryz.prog 72 64 := ⟨tZ_72⟩
theorem tR72 : tArr Tryz.prog 72 64 3 1 = true := by kernel_rfl
theorem tA72 : tAgg Tryz.prog 72 64 = true := by kernel_rfl
theorem tPL74 : structPl Tryz.prog 74 = some [(0, 1), (1, 64), (65, 64), (129, 1), (130, 1), (131, 1)] := by kernel_rfl
theorem tHA74 : hasAll Tryz.prog 74 = true := by kernel_rfl
theorem tZ74 : zeroOf Tryz.prog 74 = some ([.int .i64 0] ++ (List.flatten (List.replicate 64 [.int .u16 0])) ++ (List.flatten (List.replicate 64 [.int .i64 0])) ++ [.bool false, .int .i64 0, .bool false]) := by kernel_rfl
theorem tL58 : tSl Tryz.prog 58 74 132 672 = true := by kernel_rfl
theorem tZ_74 : Tryz.prog.cellsOf 74 = 132 := by kernel_rfl
instance : SzD Tryz.prog 74 132 := ⟨tZ_74⟩
theorem tF156_0 : tFld Tryz.prog 156 0 0 = true := by kernel_rfl
theorem tI126 : tInt Tryz.prog 126 .u64 = true := by kernel_rfl
theorem tZ171 : zeroOf Tryz.prog 171 = some [.bool false, .bool false, .bool false, .bool false, .bool false, .bool false, .bool false, .bool false, .bool false, .bool false, .bool false, .bool false, .bool false, .bool false, .bool false, .bool false, .bool false, .bool false, .bool false, .bool false, .bool false, .bool false, .bool false, .bool false, .bool false, .bool false, .bool false, .bool false, .bool false, .bool false, .bool false, .bool false, .bool false, .bool false, .bool false, .bool false, .bool false, .bool false, .bool false, .bool false, .bool false, .bool false, .bool false, .bool false, .bool false, .bool false, .bool false, .bool false, .bool false, .bool false, .bool false, .bool false, .bool false, .bool false, .bool false, .bool false, .bool false, .bool false, .bool false, .bool false, .bool false, .bool false, .bool false, .bool false] := by kernel_rfl
theorem tZ_171 : Tryz.prog.cellsOf 171 = 64 := by kernel_rfl
instance : SzD Tryz.prog 171 64 := ⟨tZ_171⟩
theorem tR171 : tArr Tryz.prog 171 64 4 1 = true := by kernel_rfl
theorem tA171 : tAgg Tryz.prog 171 64 = true := by kernel_rfl
theorem tA74 : tAgg Tryz.prog 74 132 = true := by kernel_rfl
theorem tF74_1 : tFld Tryz.prog 74 1 1 = true := by kernel_rfl
theorem tF74_2 : tFld Tryz.prog 74 2 65 = true := by kernel_rfl
theorem tMp165 : tMap Tryz.prog 165 3 58 = true := by kernel_rfl
theorem tZV58 : zeroV Tryz.prog 58 = some (.slice none 0 0) := by kernel_rfl
theorem tF74_0 : tFld Tryz.prog 74 0 0 = true := by kernel_rfl
theorem tZ_165 : Tryz.prog.cellsOf 165 = 1 := by kernel_rfl
instance : SzD Tryz.prog 165 1 := ⟨tZ_165⟩
theorem tIsl58 : (match Tryz.prog.underlying 58 with | some (.slice _) => true | _ => false) = true := by kernel_rfl
theorem tF74_4 : tFld Tryz.prog 74 4 130 = true := by kernel_rfl
theorem tF74_5 : tFld Tryz.prog 74 5 131 = true := by kernel_rfl
theorem tF74_3 : tFld Tryz.prog 74 3 129 = true := by kernel_rfl
theorem tPL247 : structPl Tryz.prog 247 = some [(0, 1), (1, 1)] := by kernel_rfl
theorem tHA247 : hasAll Tryz.prog 247 = true := by kernel_rfl
theorem tZ247 : zeroOf Tryz.prog 247 = some [.int .i64 0, .int .i64 0] := by kernel_rfl
theorem tL219 : tSl Tryz.prog 219 247 2 16 = true := by kernel_rfl
theorem tZ_247 : Tryz.prog.cellsOf 247 = 2 := by kernel_rfl
instance : SzD Tryz.prog 247 2 := ⟨tZ_247⟩
theorem tR232 : tArr Tryz.prog 232 4 3 1 = true := by kernel_rfl
theorem tZ232 : zeroOf Tryz.prog 232 = some [.int .i64 0, .int .i64 0, .int .i64 0, .int .i64 0] := by kernel_rfl
theorem tZ3 : zeroOf Tryz.prog 3 = some [.int .i64 0] := by kernel_rfl
theorem tPL68 : structPl Tryz.prog 68 = some [(0, 1), (1, 1)] := by kernel_rfl
theorem tHA68 : hasAll Tryz.prog 68 = true := by kernel_rfl
theorem tZ68 : zeroOf Tryz.prog 68 = some [.slice none 0 0, .bool false] := by kernel_rfl
theorem tL76 : tSl Tryz.prog 76 68 2 32 = true := by kernel_rfl
def gl0 : Gl := ⟨1, [(0, (gv_frame_syncs.toList.map fun z => Value.int .u16 z).toArray)]⟩
def R5 (x : Int) : List AV := [.int .u8 x]
theorem D5 (x : Int) : (R5 x).length = Tryz.prog.cellsOf 5 ∧ (R5 x).all datB = true := ⟨tZ_5.symm, rfl⟩
instance : RowD Tryz.prog 5 R5 := ⟨D5⟩
def C47 (x : Int) : AV := .int .u16 x
def R158 (x : api_Found) : List AV := (.int .i64 x.At) :: ((List.map C47 x.Frame.toList) ++ ([]))
theorem ln0 {a0 : AV} {v1 : Vector Int 64} : ((a0) :: ((List.map C47 v1.toList) ++ ([]))).length = 65 := lnC (n := 64) (lnA (m := 64) (n := 0) arL (lnN))
theorem al1 {x0 : Int} {v1 : Vector Int 64} : ((.int .i64 x0) :: ((List.map C47 v1.toList) ++ ([]))).all datB = true := alC rfl (alA (arD fun _ => rfl) (alN))
theorem D158 (x : api_Found) : (R158 x).length = Tryz.prog.cellsOf 158 ∧ (R158 x).all datB = true := ⟨Eq.trans (b := 65) ln0 tZ_158.symm, al1⟩
instance : RowD Tryz.prog 158 R158 := ⟨D158⟩
def C5 (x : Int) : AV := .int .u8 x
theorem at2 {a0 : AV} {v1 : Vector Int 64} : At ((a0) :: ((List.map C47 v1.toList) ++ ([]))) 0 1 ([a0]) := at0 (hdc (n := 0) hd0)
theorem pt3 {a0 : AV} {v1 : Vector Int 64} {b0 : AV} : Put ((a0) :: ((List.map C47 v1.toList) ++ ([]))) 0 ([b0]) ((b0) :: ((List.map C47 v1.toList) ++ ([]))) := put1
theorem at4 {a0 : AV} {v1 : Vector Int 64} : At ((a0) :: ((List.map C47 v1.toList) ++ ([]))) 1 64 ((List.map C47 v1.toList)) := atc (o := 0) (at0 (hdw arL))
theorem pt5 {a0 : AV} {v1 : Vector Int 64} {w1 : Vector Int 64} : Put ((a0) :: ((List.map C47 v1.toList) ++ ([]))) 1 ((List.map C47 w1.toList)) ((a0) :: ((List.map C47 w1.toList) ++ ([]))) := putc (o := 0) (putw (Eq.trans arL (Eq.symm arL)))
theorem al6 {x0 : Int} {v1 : Vector Int 64} : ((.int .i64 x0) :: ((List.map C47 v1.toList) ++ ([]))).all c1B = true := alC rfl (alA (arC fun _ => rfl) (alN))
theorem E158 (x : api_Found) : (R158 x).all c1B = true := al6
theorem ns7 {x0 : Int} {v1 : Vector Int 64} : NS ((.int .i64 x0) :: ((List.map C47 v1.toList) ++ ([]))) := nsC rfl (nsA (nsM fun _ => rfl) (nsR rfl))
def FK3 (x : Int) : AV := .int .i64 x
theorem tKO3 : KeyOK Tryz.prog 3 FK3 kqI := key_int (fun _ => rfl) tI3
def FV3 (x : Int) : AV := .int .i64 x
def R3 (x : Int) : List AV := [.int .i64 x]
theorem D3 (x : Int) : (R3 x).length = Tryz.prog.cellsOf 3 ∧ (R3 x).all datB = true := ⟨tZ_3.symm, rfl⟩
instance : RowD Tryz.prog 3 R3 := ⟨D3⟩
def C3 (x : Int) : AV := .int .i64 x
theorem at8 {a0 : AV} {v1 : Vector Int 64} {v2 : Vector Int 64} {a3 : AV} {a4 : AV} {a5 : AV} : At ((a0) :: ((List.map C47 v1.toList) ++ (((List.map C3 v2.toList) ++ ((a3) :: (a4) :: (a5) :: []))))) 0 1 ([a0]) := at0 (hdc (n := 0) hd0)
theorem pt9 {a0 : AV} {v1 : Vector Int 64} {v2 : Vector Int 64} {a3 : AV} {a4 : AV} {a5 : AV} {b0 : AV} : Put ((a0) :: ((List.map C47 v1.toList) ++ (((List.map C3 v2.toList) ++ ((a3) :: (a4) :: (a5) :: []))))) 0 ([b0]) ((b0) :: ((List.map C47 v1.toList) ++ (((List.map C3 v2.toList) ++ ((a3) :: (a4) :: (a5) :: []))))) := put1
theorem at10 {a0 : AV} {v1 : Vector Int 64} {v2 : Vector Int 64} {a3 : AV} {a4 : AV} {a5 : AV} : At ((a0) :: ((List.map C47 v1.toList) ++ (((List.map C3 v2.toList) ++ ((a3) :: (a4) :: (a5) :: []))))) 1 64 ((List.map C47 v1.toList)) := atc (o := 0) (at0 (hdw arL))
theorem pt11 {a0 : AV} {v1 : Vector Int 64} {v2 : Vector Int 64} {a3 : AV} {a4 : AV} {a5 : AV} {w1 : Vector Int 64} : Put ((a0) :: ((List.map C47 v1.toList) ++ (((List.map C3 v2.toList) ++ ((a3) :: (a4) :: (a5) :: []))))) 1 ((List.map C47 w1.toList)) ((a0) :: ((List.map C47 w1.toList) ++ (((List.map C3 v2.toList) ++ ((a3) :: (a4) :: (a5) :: []))))) := putc (o := 0) (putw (Eq.trans arL (Eq.symm arL)))
theorem at12 {a0 : AV} {v1 : Vector Int 64} {v2 : Vector Int 64} {a3 : AV} {a4 : AV} {a5 : AV} : At ((a0) :: ((List.map C47 v1.toList) ++ (((List.map C3 v2.toList) ++ ((a3) :: (a4) :: (a5) :: []))))) 65 64 ((List.map C3 v2.toList)) := atc (o := 64) (ata (m := 64) (o := 0) arL (at0 (hdw arL)))
theorem pt13 {a0 : AV} {v1 : Vector Int 64} {v2 : Vector Int 64} {a3 : AV} {a4 : AV} {a5 : AV} {w2 : Vector Int 64} : Put ((a0) :: ((List.map C47 v1.toList) ++ (((List.map C3 v2.toList) ++ ((a3) :: (a4) :: (a5) :: []))))) 65 ((List.map C3 w2.toList)) ((a0) :: ((List.map C47 v1.toList) ++ (((List.map C3 w2.toList) ++ ((a3) :: (a4) :: (a5) :: []))))) := putc (o := 64) (puta (m := 64) (o := 0) arL (putw (Eq.trans arL (Eq.symm arL))))
theorem at14 {a0 : AV} {v1 : Vector Int 64} {v2 : Vector Int 64} {a3 : AV} {a4 : AV} {a5 : AV} : At ((a0) :: ((List.map C47 v1.toList) ++ (((List.map C3 v2.toList) ++ ((a3) :: (a4) :: (a5) :: []))))) 129 1 ([a3]) := atc (o := 128) (ata (m := 64) (o := 64) arL (ata (m := 64) (o := 0) arL (at0 (hdc (n := 0) hd0))))
theorem pt15 {a0 : AV} {v1 : Vector Int 64} {v2 : Vector Int 64} {a3 : AV} {a4 : AV} {a5 : AV} {b3 : AV} : Put ((a0) :: ((List.map C47 v1.toList) ++ (((List.map C3 v2.toList) ++ ((a3) :: (a4) :: (a5) :: []))))) 129 ([b3]) ((a0) :: ((List.map C47 v1.toList) ++ (((List.map C3 v2.toList) ++ ((b3) :: (a4) :: (a5) :: []))))) := putc (o := 128) (puta (m := 64) (o := 64) arL (puta (m := 64) (o := 0) arL (put1)))
theorem at16 {a0 : AV} {v1 : Vector Int 64} {v2 : Vector Int 64} {a3 : AV} {a4 : AV} {a5 : AV} : At ((a0) :: ((List.map C47 v1.toList) ++ (((List.map C3 v2.toList) ++ ((a3) :: (a4) :: (a5) :: []))))) 130 1 ([a4]) := atc (o := 129) (ata (m := 64) (o := 65) arL (ata (m := 64) (o := 1) arL (atc (o := 0) (at0 (hdc (n := 0) hd0)))))
theorem pt17 {a0 : AV} {v1 : Vector Int 64} {v2 : Vector Int 64} {a3 : AV} {a4 : AV} {a5 : AV} {b4 : AV} : Put ((a0) :: ((List.map C47 v1.toList) ++ (((List.map C3 v2.toList) ++ ((a3) :: (a4) :: (a5) :: []))))) 130 ([b4]) ((a0) :: ((List.map C47 v1.toList) ++ (((List.map C3 v2.toList) ++ ((a3) :: (b4) :: (a5) :: []))))) := putc (o := 129) (puta (m := 64) (o := 65) arL (puta (m := 64) (o := 1) arL (putc (o := 0) (put1))))
theorem ln18 {a0 : AV} {v1 : Vector Int 64} {v2 : Vector Int 64} {a3 : AV} {a4 : AV} {a5 : AV} : ((a0) :: ((List.map C47 v1.toList) ++ (((List.map C3 v2.toList) ++ ((a3) :: (a4) :: (a5) :: []))))).length = 132 := lnC (n := 131) (lnA (m := 64) (n := 67) arL (lnA (m := 64) (n := 3) arL (lnC (n := 2) (lnC (n := 1) (lnC (n := 0) (lnN))))))
theorem al19 {x0 : Int} {v1 : Vector Int 64} {v2 : Vector Int 64} {x3 : Bool} {x4 : Int} {x5 : Bool} : ((.int .i64 x0) :: ((List.map C47 v1.toList) ++ (((List.map C3 v2.toList) ++ ((.bool x3) :: (.int .i64 x4) :: (.bool x5) :: []))))).all datB = true := alC rfl (alA (arD fun _ => rfl) (alA (arD fun _ => rfl) (alC rfl (alC rfl (alC rfl (alN))))))
def R74 (x : api_Rest) : List AV := (.int .i64 x.Number) :: ((List.map C47 x.Frame.toList) ++ (((List.map C3 x.States.toList) ++ ((.bool x.Sound) :: (.int .i64 x.Copies) :: (.bool x.Conflict) :: []))))
def C4 (x : Bool) : AV := .bool x
theorem al20 {x0 : Int} {v1 : Vector Int 64} {v2 : Vector Int 64} {x3 : Bool} {x4 : Int} {x5 : Bool} : ((.int .i64 x0) :: ((List.map C47 v1.toList) ++ (((List.map C3 v2.toList) ++ ((.bool x3) :: (.int .i64 x4) :: (.bool x5) :: []))))).all c1B = true := alC rfl (alA (arC fun _ => rfl) (alA (arC fun _ => rfl) (alC rfl (alC rfl (alC rfl (alN))))))
theorem ns21 {x0 : Int} {v1 : Vector Int 64} {v2 : Vector Int 64} {x3 : Bool} {x4 : Int} {x5 : Bool} : NS ((.int .i64 x0) :: ((List.map C47 v1.toList) ++ (((List.map C3 v2.toList) ++ ((.bool x3) :: (.int .i64 x4) :: (.bool x5) :: []))))) := nsC rfl (nsA (nsM fun _ => rfl) (nsA (nsM fun _ => rfl) (nsC rfl (nsC rfl (nsC rfl (nsR rfl))))))
theorem E74 (x : api_Rest) : (R74 x).all c1B = true := al20
theorem D74 (x : api_Rest) : (R74 x).length = Tryz.prog.cellsOf 74 ∧ (R74 x).all datB = true := ⟨Eq.trans (b := 132) ln18 tZ_74.symm, al19⟩
instance : RowD Tryz.prog 74 R74 := ⟨D74⟩
theorem at22 {a0 : AV} {v1 : Vector Int 64} {v2 : Vector Int 64} {a3 : AV} {a4 : AV} {a5 : AV} : At ((a0) :: ((List.map C47 v1.toList) ++ (((List.map C3 v2.toList) ++ ((a3) :: (a4) :: (a5) :: []))))) 131 1 ([a5]) := atc (o := 130) (ata (m := 64) (o := 66) arL (ata (m := 64) (o := 2) arL (atc (o := 1) (atc (o := 0) (at0 (hdc (n := 0) hd0))))))
theorem tEq49 : eqTy Tryz.prog 49 ((List.replicate 64 ([.i .u16])).flatten) := ⟨by kernel_rfl, by kernel_rfl, by kernel_rfl⟩
theorem pt23 {a0 : AV} {v1 : Vector Int 64} {v2 : Vector Int 64} {a3 : AV} {a4 : AV} {a5 : AV} {b5 : AV} : Put ((a0) :: ((List.map C47 v1.toList) ++ (((List.map C3 v2.toList) ++ ((a3) :: (a4) :: (a5) :: []))))) 131 ([b5]) ((a0) :: ((List.map C47 v1.toList) ++ (((List.map C3 v2.toList) ++ ((a3) :: (a4) :: (b5) :: []))))) := putc (o := 130) (puta (m := 64) (o := 66) arL (puta (m := 64) (o := 2) arL (putc (o := 1) (putc (o := 0) (put1)))))
def R247 (x : api_Flaw) : List AV := [.int .i64 x.Word, .int .i64 x.Kind]
theorem D247 (x : api_Flaw) : (R247 x).length = Tryz.prog.cellsOf 247 ∧ (R247 x).all datB = true := ⟨tZ_247.symm, rfl⟩
instance : RowD Tryz.prog 247 R247 := ⟨D247⟩
theorem tEq72 : eqTy Tryz.prog 72 ((List.replicate 64 ([.i .i64])).flatten) := ⟨by kernel_rfl, by kernel_rfl, by kernel_rfl⟩
theorem tEq74 : eqTy Tryz.prog 74 ((.i .i64 :: ((List.replicate 64 ([.i .u16])).flatten ++ ((List.replicate 64 ([.i .i64])).flatten ++ (.b :: (.i .i64 :: (.b :: []))))))) := ⟨by kernel_rfl, by kernel_rfl, by kernel_rfl⟩
def R68 (x : api_Piece) : List AV := [.sl 5 (List.map R5 x.Bytes), .bool x.Half]
theorem D68 (x : api_Piece) : (R68 x).length = Tryz.prog.cellsOf 68 ∧ (R68 x).all datB = true := ⟨tZ_68.symm, rfl⟩
instance : RowD Tryz.prog 68 R68 := ⟨D68⟩
theorem ok_salvage_CheckPiece {p : api_Piece} {r : Int} (h : salvage_CheckPiece p = some r) :
 CSpec Tryz.prog gl0 56 [.agg [.sl 5 (List.map R5 p.Bytes), .bool p.Half]] (.int .i64 r) := by
 unfold salvage_CheckPiece at h
 replace h := bnd0 h
 refine So Tryz.func56 Y fun w0 A=>Tr<|Rq Y (v_boxD (cva<|ov Y) Y tZ_68 Y)<|Ra Y<|R_nil<|T_seq<|T_block<|K1 1 Y<|Tr<|Rq Y (v_fieldR (ov Y) tF68_0)<|Rq Y (v_loadS_r (ov Y) tS66 Y)<|Rl tZ_5 tL66 Y<|R2 v_gtr Y<|Ra Y<|R_nil<|K2 1 3 Y<|If h Y (fun h=>?_) fun h=>?_
 ·
  refine K0<|Tr<|Ra Y<|R_nil<|?_
  obtain rfl := rt h
  exact T_ret (retq Y (.one<|rb Y))
 ·
  refine K1 1 Y<|Tr<|Rq Y (v_fieldR (ov Y) tF68_1)<|Rq Y (v_loadS_r (ov Y) tS4 Y)<|Rm Y<|Rq Y (.guarded (p.Half == true) Y Y Y Y fun h => v_fieldR (ov Y) tF68_0)<|Rq Y (.guarded (p.Half == true) Y Y Y Y fun h => v_loadS_r (ow Y h) tS66 Y)<|Rq Y (.guarded (p.Half == true) Y Y Y Y fun h => v_len (slv_sl (ow Y h) tZ_5) tL66<|len_map _ _)<|Rq Y (.guarded (p.Half == true) Y Y Y Y fun h => v_eql (ow Y h)<|ov Y)<|Rq Y (.guarded (p.Half == true) Y Y Y Y fun h => v_move<|ow Y h)<|Rq Y (.guarded2 ((p.Half == true) && ((decide ((p.Bytes.length : Int) = 0)) == false)) Y Y Y Y fun h => v_fieldR (ov Y) tF68_0)<|Rq Y (.guarded2 ((p.Half == true) && ((decide ((p.Bytes.length : Int) = 0)) == false)) Y Y Y Y fun h => v_loadS_r (ow Y h) tS66 Y)<|bE h fun x h_x h=>Rq Y (.guarded2 ((p.Half == true) && ((decide ((p.Bytes.length : Int) = 0)) == false)) Y Y Y Y fun h => v_ixSG (ow Y h) (ov Y) tL66<|gdT h_x h)<|Rq Y (.guarded2 ((p.Half == true) && ((decide ((p.Bytes.length : Int) = 0)) == false)) Y Y Y Y fun h => v_loadS_r (ow Y h) tS5 Y)<|bE h fun q h_q h=>Rq Y (.guarded2 ((p.Half == true) && ((decide ((p.Bytes.length : Int) = 0)) == false)) Y Y Y Y fun h => v_shrG (ow Y h) (ov Y)<|gdT h_q h)<|Rq Y (.guarded2 ((p.Half == true) && ((decide ((p.Bytes.length : Int) = 0)) == false)) Y Y Y Y fun h => v_neq (ow Y h)<|ov Y)<|Rq Y (.guarded (p.Half == true) Y Y Y Y fun h => v_or (ow Y h) fun hp=>ow Y<|gA h<|gF hp)<|Rq Y (v_and (ov Y) fun hp=>ow Y<|gT hp)<|Ra Y<|R_nil<|K1 8 Y<|If h Y (fun h=>?_) fun h=>?_
  ·
   refine K0<|Tr<|Ra Y<|R_nil<|?_
   obtain rfl := rt h
   exact T_ret (retq Y (.one<|rb Y))
  ·
   refine T_skip<|K0<|Tr<|Ra Y<|R_nil<|?_
   obtain rfl := rt h
   exact T_ret (retq Y (.one<|rb Y))
theorem ok_salvage_ahead {p : api_Piece} {r : Int} (h : salvage_ahead p = some r) :
 CSpec Tryz.prog gl0 111 [.agg [.sl 5 (List.map R5 p.Bytes), .bool p.Half]] (.int .i64 r) := by
 unfold salvage_ahead at h
 replace h := bnd0 h
 refine So Tryz.func111 Y fun w0 A=>Tr<|Rq Y (v_boxD (cva<|ov Y) Y tZ_68 Y)<|Ra Y<|R_nil<|T_seq<|K1 1 Y<|Tr<|Rq Y (v_fieldR (ov Y) tF68_1)<|Rq Y (v_loadS_r (ov Y) tS4 Y)<|R_nil<|K1 4 Y<|If h Y (fun h=>?_) fun h=>?_
 ·
  refine K0<|Tr<|Ra Y<|R_nil<|?_
  obtain rfl := rt h
  exact T_ret (retq Y (.one<|rb Y))
 ·
  refine T_skip<|K0<|Tr<|Ra Y<|R_nil<|?_
  obtain rfl := rt h
  exact T_ret (retq Y (.one<|rb Y))
theorem ok_salvage_length {p : api_Piece} {r : Int} (h : salvage_length p = some r) :
 CSpec Tryz.prog gl0 109 [.agg [.sl 5 (List.map R5 p.Bytes), .bool p.Half]] (.int .i64 r) := by
 unfold salvage_length at h
 replace h := bnd0 h
 refine So Tryz.func109 Y fun w0 A=>Tr<|Rq Y (v_boxD (cva<|ov Y) Y tZ_68 Y)<|Ra Y<|R_nil<|K2 1 2 Y<|Td md0<|Dq 0 Y (v_fieldR (ov Y) tF68_0)<|Dq 1 Y (v_loadS_r (ov Y) tS66 Y)<|Dq 2 Y (v_len (slv_sl (ov Y) tZ_5) tL66<|len_map _ _)<|D2 3 vmul Y<|Dq 4 Y (v_loadA_r (ov Y) tA68 Y Y)<|bE h fun y h_y h=>Dq 5 Y (v_call (ok_salvage_ahead h_y)<|.cons (ov Y) (.aggB Y) .nil)<|D2 6 vsub Y<|D1 7 v_assign Y<|Dd<|?_
 obtain rfl := rt h
 exact T_ret (retq Y (.one<|rb Y))
theorem ok_salvage_halfOf {b : List Int} {i : Int} {r : Int} (h : salvage_halfOf b i = some r) :
 CSpec Tryz.prog gl0 110 [.sl 5 (List.map R5 b), .int .i64 i] (.int .u8 r) := by
 unfold salvage_halfOf at h
 replace h := bnd0 h
 refine So Tryz.func110 Y fun w0 A=>Tr<|Ra Y<|R_nil<|Tr<|Rm Y<|Rm Y<|bE h fun q h_q h=>Rq Y (v_quoG (ov Y) (ov Y) h_q)<|bE h fun x h_x h=>Rq Y (v_ixSG (ov Y) (ov Y) tL66 h_x)<|Rq Y (v_loadS_r (ov Y) tS5 Y)<|Rm Y<|bE h fun q2 h_q2 h=>Rq Y (v_remG (ov Y) (ov Y) h_q2)<|R2 vmul Y<|R2 vsub Y<|bE h fun q3 h_q3 h=>Rq Y (v_shrG (ov Y) (ov Y) h_q3)<|R2 v_and_ Y<|Ra Y<|R_nil<|?_
 obtain rfl := rt h
 exact T_ret (retq Y (.one<|rb Y))
theorem ok_salvage_halves {p : api_Piece} {r : (List Int)} (h : salvage_halves p = some r) :
 CSpec Tryz.prog gl0 58 [.agg [.sl 5 (List.map R5 p.Bytes), .bool p.Half]] (.sl 5 (List.map R5 r)) := by
 unfold salvage_halves at h
 replace h := bnd0 h
 refine So Tryz.func58 Y fun w0 A=>Tr<|Rq Y (v_boxD (cva<|ov Y) Y tZ_68 Y)<|Ra Y<|R_nil<|K1 1 Y<|Tr<|Rq Y (v_loadA_r (ov Y) tA68 Y Y)<|bE h fun y h_y h=>Rq Y (v_call (ok_salvage_length h_y)<|.cons (ov Y) (.aggB Y) .nil)<|bE h fun l h_l h=>Rx Y (w_makeG [none] (r := 0) (f := R5) (z0 := 0) Y (ov Y) (ov Y) tL66 Y tZ5 Y Y h_l)<|Ra Y<|R_nil<|I1 (fun out=>⟨[(3, .own 0 out.length)], [some ⟨5, List.map R5 out⟩]⟩) h (fun h=>?_) fun out h=>?_
 ·
  refine K2 1 3 Y<|Tr<|Rm Y<|Rq Y (v_lenO (ov Y) Y Y tL66)<|Rm Y<|R_nil<|T_block<|?_
  obtain ⟨r1, hl1, ho1⟩ := bndL h
  refine L2 (fun out2 i=>⟨[(1, .rp [.sl 5 (List.map R5 p.Bytes), .bool p.Half] 0), (3, .own 0 out2.length), (9, .int .i64 (l.length : Int)), (10, .int .i64 i)], [some ⟨5, List.map R5 out2⟩]⟩) hl1 (ES [some 0]) fun n1 out2 i h=>?_
  unfold salvage_halves_L1 at h
  refine Tr<|R2 v_lss Y<|R_nil<|T_seq<|If h Y (fun h=>?_) fun h=>?_
  ·
   exact T_skip<|T_seq<|T_block<|K4 1 3 9 10 Y<|Tr<|Rm Y<|Ra Y<|R_nil<|K5 1 3 4 9 10 Y<|T_draw (cw := md0) (by kernel_rfl)<|D1 0 v_move Y<|D1 1 v_move Y<|Dq 2 Y (v_fieldR (ov Y) tF68_0)<|Dq 3 Y (v_loadS_r (ov Y) tS66 Y)<|D1 4 v_move Y<|Dq 5 Y (v_loadA_r (ov Y) tA68 Y Y)<|bE h fun y2 h_y2 h=>Dq 6 Y (v_call (ok_salvage_ahead h_y2)<|.cons (ov Y) (.aggB Y) .nil)<|D2 7 vadd Y<|bE h fun y3 h_y3 h=>Dq 8 Y (v_call (ok_salvage_halfOf h_y3)<|.cons (ov Y) (.b Y)<|.cons (ov Y) (.b Y) .nil)<|bE h fun x h_x h=>Dq 9 Y (v_ixOG (ov Y) (ov Y) tL66 Y Y h_x)<|Do 10 Y (w_storeR (u' := y3) (ov Y) (ov Y) (cells_scal tS5) Y Y h_x Y (cell1_all Y) Y)<|Dd<|K4 1 3 9 10 Y<|T_reg<|R2 vadd Y<|Rm Y<|R_nil<|⟨_, h, ES [some 0]<|sd 1 Y Y<|sr 3 Y (ownE (Eq.symm<|(List.length_set ..).trans Y) Y)<|sd 9 Y Y<|sd 10 Y Y sn⟩
  ·
   refine T_exit<|?_
   replace h := lx h ▸ ho1
   exact ⟨_, h, ES [some 0]⟩
 ·
  refine Tr<|Rm Y<|Ra Y<|R_nil<|?_
  obtain rfl := rt h
  exact T_ret (retq Y (.one<|.tmp Y<|View.ownM Y Y D5))
theorem ok_salvage_wordAt {h_ : List Int} {r : Int} (h : salvage_wordAt h_ = some r) :
 CSpec Tryz.prog gl0 197 [.sl 5 (List.map R5 h_)] (.int .u16 r) := by
 unfold salvage_wordAt at h
 replace h := bnd0 h
 refine So Tryz.func197 Y fun w0 A=>Tr<|Ra Y<|R_nil<|Td md0<|D1 0 v_move Y<|bE h fun x h_x h=>Dq 1 Y (v_ixSG (ov Y) (ov Y) tL66 h_x)<|Dq 2 Y (v_loadS_r (ov Y) tS5 Y)<|Dq 3 Y (v_conv (ov Y) tI5 tI47 Y)<|bE h fun q h_q h=>Dq 4 Y (v_shlG (ov Y) (ov Y) h_q)<|D1 5 v_move Y<|bE h fun x2 h_x2 h=>Dq 6 Y (v_ixSG (ov Y) (ov Y) tL66 h_x2)<|Dq 7 Y (v_loadS_r (ov Y) tS5 Y)<|Dq 8 Y (v_conv (ov Y) tI5 tI47 Y)<|bE h fun q2 h_q2 h=>Dq 9 Y (v_shlG (ov Y) (ov Y) h_q2)<|D2 10 v_or_ Y<|D1 11 v_move Y<|bE h fun x3 h_x3 h=>Dq 12 Y (v_ixSG (ov Y) (ov Y) tL66 h_x3)<|Dq 13 Y (v_loadS_r (ov Y) tS5 Y)<|Dq 14 Y (v_conv (ov Y) tI5 tI47 Y)<|D2 15 v_or_ Y<|D1 16 v_assign Y<|Dd<|?_
 obtain rfl := rt h
 exact T_ret (retq Y (.one<|rb Y))
theorem ok_frame_Sync {number : Int} {r : Int × Int} (h : frame_Sync number = some r) :
 CSpec Tryz.prog gl0 200 [.int .i64 number] (.tuple [.int .i64 r.1, .int .i64 r.2]) := by
 unfold frame_Sync at h
 replace h := bnd0 h
 refine So Tryz.func200 Y fun w0 A=>Tr<|Ra Y<|Ra Y<|R_nil<|T_seq<|K1 0 Y<|Tr<|Rm Y<|R2 v_lss Y<|Rm Y<|Rq Y (.guarded ((decide (number < 0)) == false) Y Y Y Y fun h => v_move<|ov Y)<|Rq Y (.guarded ((decide (number < 0)) == false) Y Y Y Y fun h => v_geq (ow Y h)<|ov Y)<|Rq Y (v_or (ov Y) fun hp=>ow Y<|gF hp)<|R_nil<|K2 0 9 Y<|If h Y (fun h=>?_) fun h=>?_
 ·
  refine K0<|Tr<|Ra Y<|Ra Y<|R_nil<|?_
  obtain rfl := rt h
  exact T_ret (retq Y (.two (rb Y)<|rb Y))
 ·
  refine T_skip<|K1 0 Y<|Tr<|Rm Y<|bE h fun q h_q h=>Rq Y (v_remG (ov Y) (ov Y) h_q)<|bE h fun x h_x h=>Rq Y (v_ixRG (og (v := gv_frame_syncs) (k := .u16) (f := C47) (by simp [gl0]) fun _=>Y) (ov Y) tR187 h_x)<|Rq Y (v_loadS_r (ov Y) tS47<|at_get<|at_at (o := 0) (o' := (q.toNat * 1)) (at_all arL)<|at_v1 h_x)<|Rq Y (v_conv (ov Y) tI47 tI3 Y)<|Ra Y<|Ra Y<|R_nil<|?_
  obtain rfl := rt h
  exact T_ret (retq Y (.two (rb Y)<|rb Y))
theorem ok_salvage_isSync {w : Int} {r : Bool} (h : salvage_isSync w = some r) :
 CSpec Tryz.prog gl0 225 [.int .u16 w] (.bool r) := by
 unfold salvage_isSync at h
 replace h := bnd0 h
 refine So Tryz.func225 Y fun w0 A=>Tr<|Ra Y<|R_nil<|J0 (fun j => (.inr j)) ⟨[], []⟩ h (fun h=>?_) fun h=>?_
 ·
  refine K1 0 Y<|Tr<|Rm Y<|R_nil<|T_block<|?_
  obtain ⟨r1, hl1, ho1⟩ := bndL h
  refine L1 (fun i=>⟨[(0, .int .u16 w), (6, .int .i64 i)], []⟩) hl1 (ES []) fun n1 i h=>?_
  unfold salvage_isSync_L1 at h
  refine Tr<|R2 v_lss Y<|R_nil<|T_seq<|If h Y (fun h=>?_) fun h=>?_
  ·
   refine T_skip<|T_seq<|T_block<|K2 0 6 Y<|Tr<|Rm Y<|Ra Y<|R_nil<|K3 0 3 6 Y<|Tr<|Rm Y<|bE h fun y h_y h=>Rq Y (v_call (ok_frame_Sync h_y)<|.cons (ov Y) (.b Y) .nil)<|Rm Y<|Rq Y (v_extract (ov Y) Y)<|Rq Y (v_extract (ov Y) Y)<|Ra Y<|Ra Y<|R_nil<|K3 0 4 6 Y<|Tr<|Rm Y<|Rq Y (v_conv (ov Y) tI3 tI47 Y)<|Rm Y<|R2 v_eql Y<|R_nil<|K3 0 6 17 Y<|If h Y (fun h=>?_) fun h=>?_
   ·
    refine K0<|Tr<|Ra Y<|R_nil<|?_
    replace h := lx h ▸ ho1
    obtain rfl := rt h
    exact T_ret (retq Y (.one<|rb Y))
   ·
    exact T_skip<|K2 0 6 Y<|T_reg<|R2 vadd Y<|Rm Y<|R_nil<|⟨_, h, ES []⟩
  ·
   refine T_exit<|?_
   replace h := lx h ▸ ho1
   exact ⟨_, h, ES []⟩
 ·
  replace h := elr h
  replace h := t0i h
  refine Tr<|Ra Y<|R_nil<|?_
  obtain rfl := rt h
  exact T_ret (retq Y (.one<|rb Y))
theorem ok_salvage_frameIn {w : Vector Int 192} {r : (Vector Int 64)} (h : salvage_frameIn w = some r) :
 CSpec Tryz.prog gl0 226 [.agg (List.map C5 w.toList)] (.agg (List.map C47 r.toList)) := by
 unfold salvage_frameIn at h
 replace h := bnd0 h
 refine So Tryz.func226 Y fun w0 A=>Tr<|Rq Y (v_boxD (cva<|ov Y) arL tZ_261<|arD fun _ => Y)<|Rx Y (w_alloc (row := (List.map C47 (Vector.replicate 64 0).toList)) 0 Y tZ49 Y tZ_49)<|R_nil<|K2 1 2 Y<|Tr<|Rx Y (w_alloc (row := (List.map C47 (Vector.replicate 64 0).toList)) 1 Y tZ49 Y tZ_49)<|R_nil<|I1 (fun f=>⟨[(2, .ptr 0 1 0 0), (3, .ptr 1 1 0 0)], [some ⟨49, [(List.map C47 (Vector.replicate 64 0).toList)]⟩, some ⟨49, [(List.map C47 f.toList)]⟩]⟩) h (fun h=>?_) fun f h=>?_
 ·
  refine Tr<|Rm Y<|R_nil<|T_block<|?_
  obtain ⟨r1, hl1, ho1⟩ := bndL h
  refine L2 (fun f2 i=>⟨[(1, .rp (List.map C5 w.toList) 0), (2, .ptr 0 1 0 0), (3, .ptr 1 1 0 0), (5, .int .i64 i)], [some ⟨49, [(List.map C47 (Vector.replicate 64 0).toList)]⟩, some ⟨49, [(List.map C47 f2.toList)]⟩]⟩) hl1 (ES [some 0, some 1]) fun n1 f2 i h=>?_
  unfold salvage_frameIn_L1 at h
  refine Tr<|R2 v_lss Y<|R_nil<|T_seq<|If h Y (fun h=>?_) fun h=>?_
  ·
   exact T_skip<|T_seq<|T_block<|K4 1 2 3 5 Y<|Tr<|Rm Y<|Ra Y<|R_nil<|K5 1 2 3 4 5 Y<|T_reg<|Rm Y<|Rm Y<|R2 vmul Y<|Rm Y<|R2 vmul Y<|R2 vadd Y<|bE h fun l h_l h=>Rq Y (v_slR (f := C5) (ov Y) tR261 tZ_5 (at_all arL) Y (oi<|ov Y) (oi<|ov Y) h_l)<|bE h fun y h_y h=>Rq Y (v_call (ok_salvage_wordAt h_y)<|.cons (ov Y) (.b Y) .nil)<|bE h fun x h_x h=>Rq Y (v_ixAG (ov Y) (ov Y) tR49 Y Y h_x)<|Rx Y (w_store (ov Y) (ov Y) (cells_scal tS47) Y Y Y (arB h_x) (cell1_all Y)<|arS h_x)<|R_nil<|K4 1 2 3 5 Y<|T_reg<|R2 vadd Y<|Rm Y<|R_nil<|⟨_, h, ES [some 0, some 1]⟩
  ·
   refine T_exit<|?_
   replace h := lx h ▸ ho1
   exact ⟨_, h, ES [some 0, some 1]⟩
 ·
  refine Tr<|Rq Y (v_loadA (ov Y) Y Y Y tA49 (at_sub<|at_all arL) arL (hns := (nsM fun _ => Y)))<|Rx Y (w_store (ov Y) (ov Y) (cells_agg tA49 arL) Y Y Y (put_le (at_all arL) arL) (cell1_all<|arC fun _ => Y)<|put_all<|Eq.trans arL<|Eq.symm arL)<|R_nil<|?_
  obtain rfl := rt h
  exact T_ret (retq Y (.one<|.agg Y Y Y Y tA49 (at_sub<|at_all arL) arL (pwB<|arD fun _ => Y) (hns := (nsM fun _ => Y))))
theorem ok_frame_wide {f : Vector Int 64} {r : Bool} (h : frame_wide f = some r) :
 CSpec Tryz.prog gl0 177 [.rp (List.map C47 f.toList) 0] (.bool r) := by
 unfold frame_wide at h
 replace h := bnd0 h
 refine So Tryz.func177 Y fun w0 A=>Tr<|Ra Y<|R_nil<|J0 (fun j => (.inr j)) ⟨[], []⟩ h (fun h=>?_) fun h=>?_
 ·
  refine K1 0 Y<|Tr<|Rm Y<|R_nil<|T_block<|?_
  obtain ⟨r1, hl1, ho1⟩ := bndL h
  refine L1 (fun i=>⟨[(0, .rp (List.map C47 f.toList) 0), (4, .int .i64 i)], []⟩) hl1 (ES []) fun n1 i h=>?_
  unfold frame_wide_L1 at h
  refine Tr<|R2 v_lss Y<|R_nil<|T_seq<|If h Y (fun h=>?_) fun h=>?_
  ·
   refine T_skip<|T_seq<|T_block<|K2 0 4 Y<|Tr<|Rm Y<|Ra Y<|R_nil<|K3 0 3 4 Y<|Tr<|Rm Y<|Rm Y<|R1 v_nilCheckR Y<|bE h fun x h_x h=>Rq Y (v_ixRG (ov Y) (ov Y) tR49 h_x)<|Rq Y (v_loadS_r (ov Y) tS47<|at_get<|at_at (o := 0) (o' := (i.toNat * 1)) (at_all arL)<|at_v1 h_x)<|R2 v_gtr Y<|R_nil<|K3 0 4 12 Y<|If h Y (fun h=>?_) fun h=>?_
   ·
    refine K0<|Tr<|Ra Y<|R_nil<|?_
    replace h := lx h ▸ ho1
    obtain rfl := rt h
    exact T_ret (retq Y (.one<|rb Y))
   ·
    exact T_skip<|K2 0 4 Y<|T_reg<|R2 vadd Y<|Rm Y<|R_nil<|⟨_, h, ES []⟩
  ·
   refine T_exit<|?_
   replace h := lx h ▸ ho1
   exact ⟨_, h, ES []⟩
 ·
  replace h := elr h
  replace h := t0i h
  refine Tr<|Ra Y<|R_nil<|?_
  obtain rfl := rt h
  exact T_ret (retq Y (.one<|rb Y))
theorem ok_frame_data {w : Int} {r : Int} (h : frame_data w = some r) :
 CSpec Tryz.prog gl0 184 [.int .u16 w] (.int .i64 r) := by
 unfold frame_data at h
 replace h := bnd0 h
 refine So Tryz.func184 Y fun w0 A=>Tr<|Ra Y<|R_nil<|Tr<|Rm Y<|R2 v_and_ Y<|Rq Y (v_conv (ov Y) tI47 tI3 Y)<|Ra Y<|R_nil<|?_
 obtain rfl := rt h
 exact T_ret (retq Y (.one<|rb Y))
theorem ok_frame_numberOf {f : Vector Int 64} {r : Int} (h : frame_numberOf f = some r) :
 CSpec Tryz.prog gl0 133 [.rp (List.map C47 f.toList) 0] (.int .i64 r) := by
 unfold frame_numberOf at h
 replace h := bnd0 h
 refine So Tryz.func133 Y fun w0 A=>Tr<|Ra Y<|R_nil<|Td md0<|D1 0 v_move Y<|D1 1 v_nilCheckR Y<|bE h fun x h_x h=>Dq 2 Y (v_ixRG (ov Y) (ov Y) tR49 h_x)<|Dq 3 Y (v_loadS_r (ov Y) tS47<|at_get<|at_at (o := 0) (o' := ((Int.toNat 1) * 1)) (at_all arL)<|at_v1 h_x)<|bE h fun y h_y h=>Dq 4 Y (v_call (ok_frame_data h_y)<|.cons (ov Y) (.b Y) .nil)<|D1 5 v_move Y<|D1 6 v_nilCheckR Y<|bE h fun x2 h_x2 h=>Dq 7 Y (v_ixRG (ov Y) (ov Y) tR49 h_x2)<|Dq 8 Y (v_loadS_r (ov Y) tS47<|at_get<|at_at (o := 0) (o' := ((Int.toNat 2) * 1)) (at_all arL)<|at_v1 h_x2)<|bE h fun y2 h_y2 h=>Dq 9 Y (v_call (ok_frame_data h_y2)<|.cons (ov Y) (.b Y) .nil)<|bE h fun q h_q h=>Dq 10 Y (v_shlG (ov Y) (ov Y) h_q)<|D2 11 v_or_ Y<|D1 12 v_assign Y<|Dd<|?_
 obtain rfl := rt h
 exact T_ret (retq Y (.one<|rb Y))
theorem ok_frame_sumOf {f : Vector Int 64} {r : Int} (h : frame_sumOf f = some r) :
 CSpec Tryz.prog gl0 134 [.rp (List.map C47 f.toList) 0] (.int .i64 r) := by
 unfold frame_sumOf at h
 replace h := bnd0 h
 refine So Tryz.func134 Y fun w0 A=>Tr<|Ra Y<|R_nil<|K1 0 Y<|Tr<|Ra Y<|R_nil<|I1 (fun n=>⟨[(3, .int .i64 n)], []⟩) h (fun h=>?_) fun n h=>?_
 ·
  refine Tr<|Rm Y<|R_nil<|T_block<|?_
  obtain ⟨r1, hl1, ho1⟩ := bndL h
  refine L2 (fun n2 i=>⟨[(0, .rp (List.map C47 f.toList) 0), (3, .int .i64 n2), (5, .int .i64 i)], []⟩) hl1 (ES []) fun n1 n2 i h=>?_
  unfold frame_sumOf_L1 at h
  refine Tr<|R2 v_lss Y<|R_nil<|T_seq<|If h Y (fun h=>?_) fun h=>?_
  ·
   exact T_skip<|T_seq<|T_block<|K3 0 3 5 Y<|Tr<|Rm Y<|Ra Y<|R_nil<|K4 0 3 4 5 Y<|T_reg<|Rm Y<|Rm Y<|Rm Y<|R2 vadd Y<|R1 v_nilCheckR Y<|bE h fun x h_x h=>Rq Y (v_ixRG (ov Y) (ov Y) tR49 h_x)<|Rq Y (v_loadS_r (ov Y) tS47<|at_get<|at_at (o := 0) (o' := ((i64 (i + 1)).toNat * 1)) (at_all arL)<|at_v1 h_x)<|bE h fun y h_y h=>Rq Y (v_call (ok_frame_data h_y)<|.cons (ov Y) (.b Y) .nil)<|R2 v_xor_ Y<|Ra Y<|R_nil<|K3 0 3 5 Y<|T_reg<|R2 vadd Y<|Rm Y<|R_nil<|⟨_, h, ES []⟩
  ·
   refine T_exit<|?_
   replace h := lx h ▸ ho1
   exact ⟨_, h, ES []⟩
 ·
  refine Tr<|Rm Y<|Ra Y<|R_nil<|?_
  obtain rfl := rt h
  exact T_ret (retq Y (.one<|rb Y))
theorem ok_bits_OnesCount16 {x : Int} {r : Int} (h : bits_OnesCount16 x = some r) :
 CSpec Tryz.prog gl0 183 [.int .u16 x] (.int .i64 r) := by
 unfold bits_OnesCount16 at h
 replace h := bnd0 h
 refine So Tryz.func183 Y fun w0 A=>Tr<|Ra Y<|R_nil<|Td md0<|D1 0 v_move Y<|bE h fun q h_q h=>Dq 1 Y (v_shrG (ov Y) (ov Y) h_q)<|bE h fun b h_b h=>Dq 2 Y (v_idxStr (ov Y) (ov Y) tStr9 h_b)<|D1 3 v_move Y<|D2 4 v_and_ Y<|bE h fun b2 h_b2 h=>Dq 5 Y (v_idxStr (ov Y) (ov Y) tStr9 h_b2)<|D2 6 vadd Y<|Dq 7 Y (v_conv (ov Y) tI5 tI3 Y)<|D1 8 v_assign Y<|Dd<|?_
 obtain rfl := rt h
 exact T_ret (retq Y (.one<|rb Y))
theorem ok_frame_odd {w : Int} {r : Bool} (h : frame_odd w = some r) :
 CSpec Tryz.prog gl0 132 [.int .u16 w] (.bool r) := by
 unfold frame_odd at h
 replace h := bnd0 h
 refine So Tryz.func132 Y fun w0 A=>Tr<|Ra Y<|R_nil<|Tr<|Rm Y<|R2 v_leq Y<|Rm Y<|Rq Y (.guarded ((decide (w ≤ 4095)) == true) Y Y Y Y fun h => v_move<|ov Y)<|bE h fun y h_y h=>Rq Y (.guarded ((decide (w ≤ 4095)) == true) Y Y Y Y fun h => v_call (ok_bits_OnesCount16<|gdT h_y h)<|.cons (ow Y h) (.b Y) .nil)<|bE h fun q h_q h=>Rq Y (.guarded ((decide (w ≤ 4095)) == true) Y Y Y Y fun h => v_remG (ow Y h) (ov Y)<|gdT h_q h)<|Rq Y (.guarded ((decide (w ≤ 4095)) == true) Y Y Y Y fun h => v_eql (ow Y h)<|ov Y)<|Rq Y (v_and (ov Y) fun hp=>ow Y<|gT hp)<|Ra Y<|R_nil<|?_
 obtain rfl := rt h
 exact T_ret (retq Y (.one<|rb Y))
theorem ok_frame_checkOf {f : Vector Int 64} {r : Int} (h : frame_checkOf f = some r) :
 CSpec Tryz.prog gl0 135 [.rp (List.map C47 f.toList) 0] (.int .i64 r) := by
 unfold frame_checkOf at h
 replace h := bnd0 h
 refine So Tryz.func135 Y fun w0 A=>Tr<|Ra Y<|R_nil<|K1 0 Y<|Tr<|Ra Y<|R_nil<|I1 (fun n=>⟨[(3, .int .i64 n)], []⟩) h (fun h=>?_) fun n h=>?_
 ·
  refine Tr<|Rm Y<|R_nil<|T_block<|?_
  obtain ⟨r1, hl1, ho1⟩ := bndL h
  refine L2 (fun n2 i=>⟨[(0, .rp (List.map C47 f.toList) 0), (3, .int .i64 n2), (7, .int .i64 i)], []⟩) hl1 (ES []) fun n1 n2 i h=>?_
  unfold frame_checkOf_L1 at h
  refine Tr<|R2 v_lss Y<|R_nil<|T_seq<|If h Y (fun h=>?_) fun h=>?_
  ·
   refine T_skip<|I1 (fun n3=>⟨[(0, .rp (List.map C47 f.toList) 0), (3, .int .i64 n3), (7, .int .i64 i)], []⟩) h (fun h=>?_) fun n3 h=>?_
   ·
    refine T_block<|K3 0 3 7 Y<|Tr<|Rm Y<|Ra Y<|R_nil<|K4 0 3 4 7 Y<|Tr<|Ra Y<|R_nil<|T_block<|?_
    obtain ⟨r2, hl2, ho2⟩ := bndL h
    refine L2 (fun n4 k=>⟨[(0, .rp (List.map C47 f.toList) 0), (3, .int .i64 n4), (4, .int .i64 i), (5, .int .i64 k), (7, .int .i64 i)], []⟩) hl2 (ES []) fun n2 n4 k h=>?_
    unfold frame_checkOf_L2 at h
    refine T_seq<|Tr<|Rm Y<|R2 v_geq Y<|R_nil<|K6 0 3 4 5 7 11 Y<|If h Y (fun h=>?_) fun h=>?_
    ·
     refine T_skip<|T_seq<|T_block<|K5 0 3 4 5 7 Y<|Tr<|Rm Y<|R2 v_and_ Y<|R2 v_neq Y<|Ra Y<|R_nil<|K6 0 3 4 5 6 7 Y<|Tr<|Rm Y<|bE h fun q h_q h=>Rq Y (v_shlG (ov Y) (ov Y) h_q)<|R2 v_and_ Y<|Ra Y<|R_nil<|K6 0 3 4 5 6 7 Y<|Tr<|Rm Y<|Rm Y<|Rm Y<|R1 v_nilCheckR Y<|bE h fun x h_x h=>Rq Y (v_ixRG (ov Y) (ov Y) tR49 h_x)<|Rq Y (v_loadS_r (ov Y) tS47<|at_get<|at_at (o := 0) (o' := (i.toNat * 1)) (at_all arL)<|at_v1 h_x)<|Rm Y<|bE h fun q2 h_q2 h=>Rq Y (v_shrG (ov Y) (ov Y) h_q2)<|R2 v_and_ Y<|R2 v_eql Y<|Rq Y (tBool_eq .neq (by simp) (ov Y) (ov Y) tB4)<|R_nil<|K6 0 3 4 5 7 30 Y<|If h Y (fun h=>?_) fun h=>?_
     ·
      exact K5 0 3 4 5 7 Y<|T_reg<|Rm Y<|R2 v_xor_ Y<|Ra Y<|R_nil<|K5 0 3 4 5 7 Y<|T_reg<|Rm Y<|R2 vsub Y<|Ra Y<|R_nil<|⟨_, h, ES []⟩
     ·
      exact T_skip<|K5 0 3 4 5 7 Y<|T_reg<|Rm Y<|R2 vsub Y<|Ra Y<|R_nil<|⟨_, h, ES []⟩
    ·
     refine T_exit<|?_
     replace h := lx h ▸ ho2
     exact ⟨_, h, ES []⟩
   ·
    exact T_reg<|R2 vadd Y<|Rm Y<|R_nil<|⟨_, h, ES []⟩
  ·
   refine T_exit<|?_
   replace h := lx h ▸ ho1
   exact ⟨_, h, ES []⟩
 ·
  refine Tr<|Rm Y<|Ra Y<|R_nil<|?_
  obtain rfl := rt h
  exact T_ret (retq Y (.one<|rb Y))
theorem ok_frame_sound {f : Vector Int 64} {r : Bool} (h : frame_sound f = some r) :
 CSpec Tryz.prog gl0 179 [.rp (List.map C47 f.toList) 0] (.bool r) := by
 unfold frame_sound at h
 replace h := bnd0 h
 refine So Tryz.func179 Y fun w0 A=>Tr<|Ra Y<|R_nil<|T_seq<|K1 0 Y<|Td md0<|D1 0 v_move Y<|bE h fun y h_y h=>Dq 1 Y (v_call (ok_frame_wide h_y)<|.cons (ov Y) (.b Y) .nil)<|D1 2 v_move Y<|Dq 3 Y (.guarded (y == false) Y Y Y Y fun h => v_move<|ov Y)<|Dq 4 Y (.guarded (y == false) Y Y Y Y fun h => v_nilCheckR<|ow Y h)<|bE h fun x h_x h=>Dq 5 Y (.guarded (y == false) Y Y Y Y fun h => v_ixRG (ow Y h) (ov Y) tR49<|gdT h_x h)<|Dq 6 Y (.guarded (y == false) Y Y Y Y fun h => v_loadS_r (ow Y h) tS47<|at_get<|at_at (o := 0) (o' := ((Int.toNat 0) * 1)) (at_all arL)<|at_v1<|gdT h_x h)<|Dq 7 Y (.guarded (y == false) Y Y Y Y fun h => v_move<|ov Y)<|bE h fun y2 h_y2 h=>Dq 8 Y (.guarded (y == false) Y Y Y Y fun h => v_call (ok_frame_numberOf<|gdT h_y2 h)<|.cons (ow Y h) (.b Y) .nil)<|bE h fun q h_q h=>Dq 9 Y (.guarded (y == false) Y Y Y Y fun h => v_remG (ow Y h) (ov Y)<|gdT h_q h)<|bE h fun x2 h_x2 h=>Dq 10 Y (.guarded (y == false) Y Y Y Y fun h => v_ixRG (og (v := gv_frame_syncs) (k := .u16) (f := C47) (by simp [gl0]) fun _=>Y) (ow Y h) tR187<|gdT h_x2 h)<|Dq 11 Y (.guarded (y == false) Y Y Y Y fun h => v_loadS_r (ow Y h) tS47<|at_get<|at_at (o := 0) (o' := (q.toNat * 1)) (at_all arL)<|at_v1<|gdT h_x2 h)<|Dq 12 Y (.guarded (y == false) Y Y Y Y fun h => v_neq (ow Y h)<|ow Y h)<|Dq 13 Y (v_or (ov Y) fun hp=>ow Y<|gF hp)<|D1 14 v_move Y<|Dq 15 Y (.guarded ((y || (!decide (x = x2))) == false) Y Y Y Y fun h => v_move<|ov Y)<|Dq 16 Y (.guarded ((y || (!decide (x = x2))) == false) Y Y Y Y fun h => v_nilCheckR<|ow Y h)<|bE h fun x3 h_x3 h=>Dq 17 Y (.guarded ((y || (!decide (x = x2))) == false) Y Y Y Y fun h => v_ixRG (ow Y h) (ov Y) tR49<|gdT h_x3 h)<|Dq 18 Y (.guarded ((y || (!decide (x = x2))) == false) Y Y Y Y fun h => v_loadS_r (ow Y h) tS47<|at_get<|at_at (o := 0) (o' := ((Int.toNat 61) * 1)) (at_all arL)<|at_v1<|gdT h_x3 h)<|bE h fun y3 h_y3 h=>Dq 19 Y (.guarded ((y || (!decide (x = x2))) == false) Y Y Y Y fun h => v_call (ok_frame_data<|gdT h_y3 h)<|.cons (ow Y h) (.b Y) .nil)<|Dq 20 Y (.guarded ((y || (!decide (x = x2))) == false) Y Y Y Y fun h => v_move<|ov Y)<|bE h fun y4 h_y4 h=>Dq 21 Y (.guarded ((y || (!decide (x = x2))) == false) Y Y Y Y fun h => v_call (ok_frame_sumOf<|gdT h_y4 h)<|.cons (ow Y h) (.b Y) .nil)<|Dq 22 Y (.guarded ((y || (!decide (x = x2))) == false) Y Y Y Y fun h => v_neq (ow Y h)<|ow Y h)<|Dq 23 Y (v_or (ov Y) fun hp=>ow Y<|gF hp)<|Dd<|K2 0 27 Y<|If h Y (fun h=>?_) fun h=>?_
 ·
  refine K0<|Tr<|Ra Y<|R_nil<|?_
  obtain rfl := rt h
  exact T_ret (retq Y (.one<|rb Y))
 ·
  refine T_skip<|J0 (fun j => (.inr j)) ⟨[(0, .rp (List.map C47 f.toList) 0)], []⟩ h (fun h=>?_) fun h=>?_
  ·
   refine K1 0 Y<|Tr<|Ra Y<|R_nil<|T_block<|?_
   obtain ⟨r1, hl1, ho1⟩ := bndL h
   refine L1 (fun i=>⟨[(0, .rp (List.map C47 f.toList) 0), (3, .int .i64 i)], []⟩) hl1 (ES []) fun n1 i h=>?_
   unfold frame_sound_L1 at h
   refine T_seq<|Tr<|Rm Y<|R2 v_lss Y<|R_nil<|K3 0 3 29 Y<|If h Y (fun h=>?_) fun h=>?_
   ·
    refine T_skip<|T_seq<|T_block<|K2 0 3 Y<|Tr<|Rm Y<|Rm Y<|R1 v_nilCheckR Y<|bE h fun x4 h_x4 h=>Rq Y (v_ixRG (ov Y) (ov Y) tR49 h_x4)<|Rq Y (v_loadS_r (ov Y) tS47<|at_get<|at_at (o := 0) (o' := (i.toNat * 1)) (at_all arL)<|at_v1 h_x4)<|bE h fun y5 h_y5 h=>Rq Y (v_call (ok_frame_odd h_y5)<|.cons (ov Y) (.b Y) .nil)<|R1 v_not Y<|R_nil<|K3 0 3 38 Y<|If h Y (fun h=>?_) fun h=>?_
    ·
     refine K0<|Tr<|Ra Y<|R_nil<|?_
     replace h := lx h ▸ ho1
     obtain rfl := rt h
     exact T_ret (retq Y (.one<|rb Y))
    ·
     exact T_skip<|K2 0 3 Y<|T_reg<|Rm Y<|R2 vadd Y<|Ra Y<|R_nil<|⟨_, h, ES []⟩
   ·
    refine T_exit<|?_
    replace h := lx h ▸ ho1
    exact ⟨_, h, ES []⟩
  ·
   replace h := elr h
   replace h := t0i h
   refine Td md0<|D1 0 v_move Y<|D1 1 v_nilCheckR Y<|bE h fun x5 h_x5 h=>Dq 2 Y (v_ixRG (ov Y) (ov Y) tR49 h_x5)<|Dq 3 Y (v_loadS_r (ov Y) tS47<|at_get<|at_at (o := 0) (o' := ((Int.toNat 62) * 1)) (at_all arL)<|at_v1 h_x5)<|bE h fun y6 h_y6 h=>Dq 4 Y (v_call (ok_frame_data h_y6)<|.cons (ov Y) (.b Y) .nil)<|bE h fun q2 h_q2 h=>Dq 5 Y (v_shlG (ov Y) (ov Y) h_q2)<|D1 6 v_move Y<|D1 7 v_nilCheckR Y<|bE h fun x6 h_x6 h=>Dq 8 Y (v_ixRG (ov Y) (ov Y) tR49 h_x6)<|Dq 9 Y (v_loadS_r (ov Y) tS47<|at_get<|at_at (o := 0) (o' := ((Int.toNat 63) * 1)) (at_all arL)<|at_v1 h_x6)<|bE h fun y7 h_y7 h=>Dq 10 Y (v_call (ok_frame_data h_y7)<|.cons (ov Y) (.b Y) .nil)<|D2 11 v_or_ Y<|D1 12 v_move Y<|bE h fun y8 h_y8 h=>Dq 13 Y (v_call (ok_frame_checkOf h_y8)<|.cons (ov Y) (.b Y) .nil)<|D2 14 v_eql Y<|D1 15 v_assign Y<|Dd<|?_
   obtain rfl := rt h
   exact T_ret (retq Y (.one<|rb Y))
theorem ok_frame_Sound {f : Vector Int 64} {r : Bool} (h : frame_Sound f = some r) :
 CSpec Tryz.prog gl0 180 [.agg (List.map C47 f.toList)] (.bool r) := by
 unfold frame_Sound at h
 replace h := bnd0 h
 refine So Tryz.func180 Y fun w0 A=>Tr<|Rq Y (v_boxD (cva<|ov Y) arL tZ_49<|arD fun _ => Y)<|Ra Y<|R_nil<|K2 1 2 Y<|Tr<|bE h fun y h_y h=>Rq Y (v_call (ok_frame_sound h_y)<|.cons (ov Y) (.b Y) .nil)<|Ra Y<|R_nil<|?_
 obtain rfl := rt h
 exact T_ret (retq Y (.one<|rb Y))
theorem it_scan {h_ : List Int} {out r : List api_Found} {l Bx : Nat} {rec : Loop} (hY : ∀ (x : api_Found) (xs ys : List api_Found), app xs [x] = some ys → YSpec Tryz.prog gl0 l rec Bx [.int .i64 x.At, .agg (List.map C47 x.Frame.toList)] [some ⟨153, [[.own 1 xs.length]]⟩, some ⟨158, List.map R158 xs⟩] [some ⟨153, [[.own 1 ys.length]]⟩, some ⟨158, List.map R158 ys⟩]) (h : salvage_scan_it h_ out = some r) :
 ISpec Tryz.prog gl0 224 l rec Bx [.lit (.func (.yield l) #[] #[]), .rp [.sl 5 (List.map R5 h_)] 0] [some ⟨153, [[.own 1 out.length]]⟩, some ⟨158, List.map R158 out⟩] [some ⟨153, [[.own 1 r.length]]⟩, some ⟨158, List.map R158 r⟩] := by
 unfold salvage_scan_it at h
 replace h := bnd0 h
 refine i_of Tryz.func224 Y Y Y Y<|?_
 intro w0 A W φ0 hrec hlW hB1 hB2 hB3
 refine Tr<|Ra Y<|R_nil<|T_block<|?_
 obtain ⟨r1, hl1, ho1⟩ := bndL h
 refine L2 (fun o at_=>⟨[(0, .lit (.func (.yield l) #[] #[])), (1, .rp [.sl 5 (List.map R5 h_)] 0), (3, .int .i64 at_)], [some ⟨153, [[.own 1 o.length]]⟩, some ⟨158, List.map R158 o⟩]⟩) hl1 (ES [some 0, some 1]) fun n1 o at_ h=>?_
 unfold salvage_scan_it_L1 at h
 refine T_seq<|Tr<|Rm Y<|R2 vadd Y<|Rq Y (v_loadS_r (ov Y) tS66 Y)<|Rl tZ_5 tL66 Y<|R2 v_leq Y<|R_nil<|K4 0 1 3 9 Y<|If h Y (fun h=>?_) fun h=>?_
 ·
  refine T_skip<|J1 (fun j => (.inr j)) (fun o2=>⟨[(0, .lit (.func (.yield l) #[] #[])), (1, .rp [.sl 5 (List.map R5 h_)] 0), (3, .int .i64 at_)], [some ⟨153, [[.own 1 o2.length]]⟩, some ⟨158, List.map R158 o2⟩]⟩) h (fun h=>?_) fun o2 h=>?_
  ·
   refine T_block<|T_seq<|K3 0 1 3 Y<|Tr<|Rq Y (v_loadS_r (ov Y) tS66 Y)<|Rm Y<|Rm Y<|R2 vadd Y<|bE h fun l h_l h=>Rq Y (v_sliceG (ov Y) tL66 (oi<|ov Y) (oi<|ov Y) h_l)<|bE h fun y h_y h=>Rq Y (v_call (ok_salvage_wordAt h_y)<|.cons (ov Y) (.b Y) .nil)<|bE h fun y2 h_y2 h=>Rq Y (v_call (ok_salvage_isSync h_y2)<|.cons (ov Y) (.b Y) .nil)<|R1 v_not Y<|R_nil<|K4 0 1 3 19 Y<|If h Y (fun h=>?_) fun h=>?_
   ·
    exact T_exit<|⟨_, h, ES [some 0, some 1]⟩
   ·
    refine T_skip<|K3 0 1 3 Y<|Tr<|Rq Y (v_loadS_r (ov Y) tS66 Y)<|Rm Y<|Rm Y<|R2 vadd Y<|bE h fun l2 h_l2 h=>Rq Y (v_sliceG (ov Y) tL66 (oi<|ov Y) (oi<|ov Y) h_l2)<|bE h fun v h_v h=>Rq Y (v_sapG (f := C5) (ov Y) tR261 tZ_5 Y h_v)<|Rq Y (v_loadA_r (ov Y) tA261 (at_sub<|at_all arL) arL)<|bE h fun y3 h_y3 h=>Rq Y (v_call (ok_salvage_frameIn h_y3)<|.cons (ov Y) (.aggB<|arD fun _ => Y) .nil)<|Rx Y (w_alloc (row := (List.map C47 (Vector.replicate 64 0).toList)) 2 Y tZ49 Y tZ_49)<|Rx Y (w_store (ov Y) (ov Y) (cells_agg tA49 arL) Y Y Y (put_le (at_all arL) arL) (cell1_all<|arC fun _ => Y)<|put_all<|Eq.trans arL<|Eq.symm arL)<|R_nil<|K4 0 1 3 4 Y<|T_seq<|T_in<|TI_reg<|RI_q _ Y Y (v_loadA (ov Y) Y Y Y tA49 (at_sub<|at_all arL) arL (hns := (nsM fun _ => Y)))<|bE h fun y4 h_y4 h=>RI_q _ Y Y (v_call (ok_frame_Sound h_y4)<|.cons (ov Y) (.aggB<|arD fun _ => Y) .nil)<|RI_q _ Y Y (v_move<|ov Y)<|?_
    rcases ifR h with ⟨hg, h⟩ | ⟨hg, h⟩
    ·
     refine RI_lit (d := 30) (b' := true) Y (beqT hg)<|RI_qG _ Y Y Y Y Y (v_move<|ov Y)<|RI_qG _ Y Y Y Y Y (v_move<|ov Y)<|RI_qG _ Y Y Y Y Y (v_loadA (ov Y) Y Y Y tA49 (at_sub<|at_all arL) arL (hns := (nsM fun _ => Y)))<|bE h fun out2 h_out2 h=>RI_yield Y [0, 1] (.cons (ov Y) (.dat Y)<|.cons (ov Y) (rAgg<|rld<|arD fun _ => Y) .nil) (hY (api_Found.mk at_ y3) _ _ h_out2) Y hrec hlW (by exact Nat.zero_lt_succ _) hB1 hB2 hB3 Y Y (.cons Y (ro1 (by exact tZ_153.symm)<|rlc (.own _ Y) rln)<|.cons Y (roM D158) .nil) Y (.lent 0 (.inl Y) Y (ro1 (by exact tZ_153.symm)<|rlc (.own _<|.inl Y) rln)<|.lent 1 (.inl Y) Y (roM D158)<|.keep Y Y .nil) Y Y (fun _ _ _ hc=>wanted_lit Y Y Y hc) Y<|RI_qG _ Y Y Y Y Y (v_not<|ov Y)<|RI_q _ Y Y (v_pickT (ov Y)<|ov Y)<|RI_nil<|K4 0 1 3 36 Y<|If h Y (fun h=>?_) fun h=>?_
     ·
      replace h := lx h ▸ ho1
      obtain rfl := rt h
      exact T_ret<|retg [some 0, some 1] Y .nil (.cons Y (ro1 (by exact tZ_153.symm)<|rlc (.own _ Y) rln)<|.cons Y (roM D158) .nil) Y Y<|rTup<|rld Y
     ·
      exact T_skip<|⟨_, h, ES [some 0, some 1]⟩
    ·
     refine RI_lit (d := 30) (b' := false) Y (beqF hg)<|RI_skipG Y Y Y Y Y<|RI_skipG Y Y Y Y Y<|RI_skipG Y Y Y Y Y<|RI_skipG Y Y Y Y Y<|RI_skipG Y Y Y Y Y<|RI_q _ Y Y (v_pickF (ov Y)<|ov Y)<|RI_nil<|K4 0 1 3 36 Y<|T_if h Y (fun b36 h=>?_) fun b36 h=>?_
     ·
      exact Bool.noConfusion b36
     ·
      exact T_skip<|⟨_, h, ES [some 0, some 1]⟩
  ·
   replace h := elr h
   replace h := t1i h
   exact T_reg<|Rm Y<|R2 vadd Y<|Ra Y<|R_nil<|⟨_, h, ES [some 0, some 1]⟩
 ·
  refine T_exit<|?_
  replace h := lx h ▸ ho1
  obtain rfl := rt h
  exact retgn [some 0, some 1] Y .nil (.cons Y (ro1 (by exact tZ_153.symm)<|rlc (.own _ Y) rln)<|.cons Y (roM D158) .nil) Y Y<|rTup<|rld Y
theorem ok_sounds (h_ : List Int) : CSpec Tryz.prog gl0 217 [.sl 5 (List.map R5 h_)] (.fn 224 [.rp [.sl 5 (List.map R5 h_)] 0]) := by
 refine So Tryz.func217 Y fun w0 A=>Tr<|Rq Y (v_boxD (cvs (ov Y)<|cell1_b Y) Y tZ_66 Y)<|Ra Y<|R_nil<|Tr<|Rq Y (v_makeFunc<|.cons (ov Y) .nil)<|Ra Y<|R_nil<|T_ret<|retq Y<|.one<|.tmp Y<|Dat.view<|.fnC<|.cons (.b Y) .nil
theorem ok_salvage_scan {h_ : List Int} {r : List api_Found} (h : salvage_scan h_ = some r) :
 CSpec Tryz.prog gl0 194 [.sl 5 (List.map R5 h_)] (.sl 158 (List.map R158 r)) := by
 unfold salvage_scan at h
 refine cspec_range (by kernel_rfl) Tryz.func194 Y Y<|?_
 intro w0 A
 refine PI_seqT<|TI_reg<|RI_q _ Y Y (v_assign<|ov Y)<|RI_nil<|PI_seqT<|TI_reg<|RI_w _ _ Y Y (w_alloc (row := [_]) 0 Y tZ153 Y tZ_153)<|RI_nil<|PI_seq<|PI_seqT<|TI_reg<|RI_q _ Y Y (v_move<|ov Y)<|RI_q _ Y Y (v_call (ok_sounds h_)<|.cons (ov Y) (.b Y) .nil)<|RI_ent (Ent.sel [some 0, none] (sd 0 Y Y<|sd 2 Y Y<|sr 3 Y (.ptr (r' := 0) _ _ _ Y)<|sd 6 Y Y<|sr 7 Y (rFn<|rlc (.dat Y) rln) sn) (.cons Y (ro1 (by exact tZ_153.symm)<|rlc (.row (r' := 1) Y) rln)<|.row 158 .nil) Y Y)<|RI_nil<|PI_range (n := 3) (os := [some ⟨153, [[.own 1 ([] : List api_Found).length]]⟩, some ⟨158, List.map R158 ([] : List api_Found)⟩]) (os' := [some ⟨153, [[.own 1 r.length]]⟩, some ⟨158, List.map R158 r⟩]) (hp' := [some ⟨153, [[.own 1 r.length]]⟩, some ⟨158, List.map R158 r⟩]) [0, 1] Y Y Y (by kernel_rfl) Y Y (fun Bx l fn φ a w hc hBx hmp=>?_) (.cons Y (ro1 (by exact tZ_153.symm)<|rlc (.own _ Y) rln)<|.cons Y (roM D158) .nil) Y (.lent 0 (.inl Y) Y (ro1 (by exact tZ_153.symm)<|rlc (.own _<|.inl Y) rln)<|.lent 1 (.inl Y) Y (roM D158) .nil) Y Y (tp := 3) Y ?_
 ·
  refine it_scan (fun x xs l h_l=>?_) h
  refine y_of (tm := [(3, .ptr 0 1 0 0), (8, .int .i64 x.At), (9, .agg (List.map C47 x.Frame.toList))]) (st1 := ⟨(5, .ptr 2 1 0 0) :: (4, .int .i64 x.At) :: [(3, .ptr 0 1 0 0), (8, .int .i64 x.At), (9, .agg (List.map C47 x.Frame.toList))], [some ⟨153, [[.own 1 xs.length]]⟩, some ⟨158, List.map R158 xs⟩, some ⟨49, [(List.map C47 x.Frame.toList)]⟩]⟩) Y Y Y hc.size (tm_two Y (by show Nat.blt _ a.tmps.size = true; rw [hc.size]; rfl) (by show Nat.blt _ a.tmps.size = true; rw [hc.size]; rfl) Y Y Y Y Y<|slot_box hc Y Y Y hBx) (fun w0 A W φ0=>?_) fun w0 A W φ0=>?_
  ·
   exact TI_seq<|TI_reg<|RI_q _ Y Y (v_assign<|ov Y)<|RI_nil<|TI_reg<|RI_w _ _ Y Y (w_alloc (row := (List.map C47 (Vector.replicate 64 0).toList)) 2 Y tZ49 Y tZ_49)<|RI_w _ _ Y Y (w_store (ov Y) (ov Y) (cells_agg tA49 arL) Y Y Y (put_le (at_all arL) arL) (cell1_all<|arC fun _ => Y)<|put_all<|Eq.trans arL<|Eq.symm arL)<|RI_nil ⟨Y, Y⟩
  ·
   exact TI_block<|TI_reg<|RI_q _ Y Y (v_loadS (ov Y) Y Y Y tS153 Y)<|RI_q _ Y Y (v_move<|ov Y)<|RI_q _ Y Y (v_loadA (ov Y) Y Y Y tA49 (at_sub<|at_all arL) arL (hns := (nsM fun _ => Y)))<|RI_q _ Y Y (v_buildX (zr := (.int .i64 0) :: ((List.map C47 (Vector.replicate 64 0).toList) ++ ([]))) tPL158 tHA158 tZ158 (by kernel_rfl) (.cons (cvs (ov Y)<|cell1_b Y)<|.cons (cva<|ov Y) .nil)<|fa_cons Y Y at2 pt3<|fa_cons Y arL at4 pt5 fa_nil)<|RI_q _ Y Y (v_lit tL153 (.cons (cva<|ov Y) ln0 (pwD al1) .nil) Y Y)<|RI_w _ _ Y Y (w_appendG (ov Y) (slv_sl (ov Y) tZ_158) tL153 Y Y Y (fun x=>cell1_all<|E158 x) Y h_l)<|RI_w _ _ Y Y (w_store (ov Y) (ov Y) (cells_scal tS153) Y Y Y (Nat.le_of_ble_eq_true Y) (cell1_all Y) Y)<|RI_ent (Ent.sel [some 0, some 1] sn (.cons Y (ro1 (by exact tZ_153.symm)<|rlc (.own (r' := 1) _ Y) rln)<|.cons Y (roM D158) .nil) Y Y)<|RI_nil ⟨Y, Y⟩
 ·
  exact DI_seq<|RD_q _ Y Y Y (v_loadS (ov Y) Y Y Y tS153 Y)<|RD_q _ Y Y Y (v_assign<|ov Y)<|RD_nil<|DI_ret (.one<|.tmp Y<|View.ownM Y Y D158) Y Y
theorem ok_salvage_certain_o {h_ : List Int} {r : (List api_Found)} (h : salvage_certain h_ = some r) :
 GSpec Tryz.prog gl0 153 [.sl 5 (List.map R5 h_)] [] (.own 0 r.length) [some ⟨158, List.map R158 r⟩] := by
 unfold salvage_certain at h
 replace h := bnd0 h
 refine gspec_of (by kernel_rfl) Tryz.func153 Y Y<|?_
 intro w0 A W φ0
 refine Tr<|Ra Y<|R_nil<|K1 0 Y<|Tr<|Rm Y<|bE h fun y h_y h=>Rq Y (v_call (ok_salvage_scan h_y)<|.cons (ov Y) (.b Y) .nil)<|Ra Y<|R_nil<|K1 3 Y<|Tr<|Ra Y<|R_nil<|I1 (fun out=>⟨[(4, .own 0 out.length)], [some ⟨158, List.map R158 out⟩]⟩) h (fun h=>?_) fun out h=>?_
 ·
  refine Tr<|Rm Y<|Rl tZ_158 tL153 Y<|Rm Y<|R_nil<|T_block<|?_
  obtain ⟨r1, hl1, ho1⟩ := bndL h
  refine L2 (fun out2 i=>⟨[(3, .sl 158 (List.map R158 y)), (4, .own 0 out2.length), (9, .sl 158 (List.map R158 y)), (10, .int .i64 (y.length : Int)), (11, .int .i64 i)], [some ⟨158, List.map R158 out2⟩]⟩) hl1 (ES [none]) fun n1 out2 i h=>?_
  unfold salvage_certain_L1 at h
  refine Tr<|R2 v_lss Y<|R_nil<|T_seq<|If h Y (fun h=>?_) fun h=>?_
  ·
   refine T_skip<|T_seq<|T_block<|K5 3 4 9 10 11 Y<|Tr<|Rm Y<|bE h fun x h_x h=>Rq Y (v_ixSG (ov Y) (ov Y) tL153 h_x)<|Rq Y (v_loadA_r (ov Y) tA158 (at_sub<|at_all ln0) ln0)<|Rx Y (w_alloc (row := (.int .i64 0) :: ((List.map C47 (Vector.replicate 64 0).toList) ++ ([]))) 1 Y tZ158 (by kernel_rfl)<|by exact Eq.symm (Eq.trans (b := 65) ln0 tZ_158.symm))<|Ra Y<|Rx Y (w_store (ov Y) (ov Y) (cells_agg tA158 ln0) Y Y Y (put_le (at_all ln0) ln0) (cell1_all al6)<|put_all<|Eq.trans ln0<|Eq.symm ln0)<|R_nil<|K7 3 4 5 6 9 10 11 Y<|Td md0<|D1 0 v_move Y<|D2 1 v_eql Y<|D1 2 v_move Y<|Dq 3 Y (.guarded ((decide (i = 0)) == false) Y Y Y Y fun h => v_fieldP (ov Y) Y Y tF158_0)<|Dq 4 Y (.guarded ((decide (i = 0)) == false) Y Y Y Y fun h => v_loadS (ow Y h) Y Y Y tS3<|at_get at2)<|Dq 5 Y (.guarded ((decide (i = 0)) == false) Y Y Y Y fun h => v_move<|ov Y)<|Dq 6 Y (.guarded ((decide (i = 0)) == false) Y Y Y Y fun h => v_move<|ov Y)<|Dq 7 Y (.guarded ((decide (i = 0)) == false) Y Y Y Y fun h => v_sub (ow Y h) (ov Y) Y)<|bE h fun x2 h_x2 h=>Dq 8 Y (.guarded ((decide (i = 0)) == false) Y Y Y Y fun h => v_ixSG (ow Y h) (ow Y h) tL153<|gdT h_x2 h)<|Dq 9 Y (.guarded ((decide (i = 0)) == false) Y Y Y Y fun h => v_fieldR (ow Y h) tF158_0)<|Dq 10 Y (.guarded ((decide (i = 0)) == false) Y Y Y Y fun h => v_loadS_r (ow Y h) tS3<|at_get at2)<|Dq 11 Y (.guarded ((decide (i = 0)) == false) Y Y Y Y fun h => v_sub (ow Y h) (ow Y h) Y)<|Dq 12 Y (.guarded ((decide (i = 0)) == false) Y Y Y Y fun h => v_geq (ow Y h)<|ov Y)<|Dq 13 Y (v_or (ov Y) fun hp=>ow Y<|gF hp)<|D1 14 v_move Y<|Dq 15 Y (.guarded (((decide (i = 0)) || (decide (192 ≤ (i64 (x.At - x2.At))))) == true) Y Y Y Y fun h => v_move<|ov Y)<|Dq 16 Y (.guarded (((decide (i = 0)) || (decide (192 ≤ (i64 (x.At - x2.At))))) == true) Y Y Y Y fun h => v_move<|ov Y)<|Dq 17 Y (.guarded (((decide (i = 0)) || (decide (192 ≤ (i64 (x.At - x2.At))))) == true) Y Y Y Y fun h => v_len (slv_sl (ow Y h) tZ_158) tL153<|len_map _ _)<|Dq 18 Y (.guarded (((decide (i = 0)) || (decide (192 ≤ (i64 (x.At - x2.At))))) == true) Y Y Y Y fun h => v_sub (ow Y h) (ov Y) Y)<|Dq 19 Y (.guarded (((decide (i = 0)) || (decide (192 ≤ (i64 (x.At - x2.At))))) == true) Y Y Y Y fun h => v_eql (ow Y h)<|ow Y h)<|Dq 20 Y (.guarded (((decide (i = 0)) || (decide (192 ≤ (i64 (x.At - x2.At))))) == true) Y Y Y Y fun h => v_move<|ow Y h)<|Dq 21 Y (.guarded2 ((((decide (i = 0)) || (decide (192 ≤ (i64 (x.At - x2.At))))) == true) && ((decide (i = (i64 ((y.length : Int) - 1)))) == false)) Y Y Y Y fun h => v_move<|ov Y)<|Dq 22 Y (.guarded2 ((((decide (i = 0)) || (decide (192 ≤ (i64 (x.At - x2.At))))) == true) && ((decide (i = (i64 ((y.length : Int) - 1)))) == false)) Y Y Y Y fun h => v_move<|ov Y)<|Dq 23 Y (.guarded2 ((((decide (i = 0)) || (decide (192 ≤ (i64 (x.At - x2.At))))) == true) && ((decide (i = (i64 ((y.length : Int) - 1)))) == false)) Y Y Y Y fun h => v_add (ow Y h) (ov Y) Y)<|bE h fun x3 h_x3 h=>Dq 24 Y (.guarded2 ((((decide (i = 0)) || (decide (192 ≤ (i64 (x.At - x2.At))))) == true) && ((decide (i = (i64 ((y.length : Int) - 1)))) == false)) Y Y Y Y fun h => v_ixSG (ow Y h) (ow Y h) tL153<|gdT h_x3 h)<|Dq 25 Y (.guarded2 ((((decide (i = 0)) || (decide (192 ≤ (i64 (x.At - x2.At))))) == true) && ((decide (i = (i64 ((y.length : Int) - 1)))) == false)) Y Y Y Y fun h => v_fieldR (ow Y h) tF158_0)<|Dq 26 Y (.guarded2 ((((decide (i = 0)) || (decide (192 ≤ (i64 (x.At - x2.At))))) == true) && ((decide (i = (i64 ((y.length : Int) - 1)))) == false)) Y Y Y Y fun h => v_loadS_r (ow Y h) tS3<|at_get at2)<|Dq 27 Y (.guarded2 ((((decide (i = 0)) || (decide (192 ≤ (i64 (x.At - x2.At))))) == true) && ((decide (i = (i64 ((y.length : Int) - 1)))) == false)) Y Y Y Y fun h => v_fieldP (ov Y) Y Y tF158_0)<|Dq 28 Y (.guarded2 ((((decide (i = 0)) || (decide (192 ≤ (i64 (x.At - x2.At))))) == true) && ((decide (i = (i64 ((y.length : Int) - 1)))) == false)) Y Y Y Y fun h => v_loadS (ow Y h) Y Y Y tS3<|at_get at2)<|Dq 29 Y (.guarded2 ((((decide (i = 0)) || (decide (192 ≤ (i64 (x.At - x2.At))))) == true) && ((decide (i = (i64 ((y.length : Int) - 1)))) == false)) Y Y Y Y fun h => v_sub (ow Y h) (ow Y h) Y)<|Dq 30 Y (.guarded2 ((((decide (i = 0)) || (decide (192 ≤ (i64 (x.At - x2.At))))) == true) && ((decide (i = (i64 ((y.length : Int) - 1)))) == false)) Y Y Y Y fun h => v_geq (ow Y h)<|ov Y)<|Dq 31 Y (.guarded (((decide (i = 0)) || (decide (192 ≤ (i64 (x.At - x2.At))))) == true) Y Y Y Y fun h => v_or (ow Y h) fun hp=>ow Y<|gA h<|gF hp)<|Dq 32 Y (v_and (ov Y) fun hp=>ow Y<|gT hp)<|Dd<|K7 3 4 6 9 10 11 48 Y<|If h Y (fun h=>?_) fun h=>?_
   ·
    exact K6 3 4 6 9 10 11 Y<|T_reg<|Rm Y<|Rq Y (v_loadA (ov Y) Y Y Y tA158 (at_sub<|at_all ln0) ln0 (hns := ns7))<|R_q (.sl 158<|List.map R158 ([x] : List api_Found)) Y (v_lit tL153 (.cons (cva<|ov Y) ln0 (pwD al1) .nil) Y Y)<|bE h fun l h_l h=>Rx Y (w_appendG (ov Y) (slv_sl (ov Y) tZ_158) tL153 Y Y Y (fun x=>cell1_all<|E158 x) Y h_l)<|Ra Y<|R_nil<|K5 3 4 9 10 11 Y<|T_reg<|R2 vadd Y<|Rm Y<|R_nil<|⟨_, h, ES [some 0]⟩
   ·
    exact T_skip<|K5 3 4 9 10 11 Y<|T_reg<|R2 vadd Y<|Rm Y<|R_nil<|⟨_, h, ES [some 0]⟩
  ·
   refine T_exit<|?_
   replace h := lx h ▸ ho1
   exact ⟨_, h, ES [some 0]⟩
 ·
  refine Tr<|Rm Y<|Ra Y<|R_nil<|?_
  obtain rfl := rt h
  exact T_ret<|retg [some 0] Y (.cons (.tmp Y) .nil) (.cons Y (roM D158) .nil) Y Y<|.own _ Y
theorem ok_frame_Number {f : Vector Int 64} {r : Int × Bool} (h : frame_Number f = some r) :
 CSpec Tryz.prog gl0 154 [.agg (List.map C47 f.toList)] (.tuple [.int .i64 r.1, .bool r.2]) := by
 unfold frame_Number at h
 replace h := bnd0 h
 refine So Tryz.func154 Y fun w0 A=>Tr<|Rq Y (v_boxD (cva<|ov Y) arL tZ_49<|arD fun _ => Y)<|Ra Y<|Ra Y<|R_nil<|T_seq<|K1 1 Y<|Tr<|bE h fun x h_x h=>Rq Y (v_ixRG (ov Y) (ov Y) tR49 h_x)<|Rq Y (v_loadS_r (ov Y) tS47<|at_get<|at_at (o := 0) (o' := ((Int.toNat 1) * 1)) (at_all arL)<|at_v1 h_x)<|bE h fun y h_y h=>Rq Y (v_call (ok_frame_odd h_y)<|.cons (ov Y) (.b Y) .nil)<|R1 v_not Y<|Rm Y<|bE h fun x2 h_x2 h=>Rq Y (.guarded ((!y) == false) Y Y Y Y fun h => v_ixRG (ov Y) (ov Y) tR49<|gdT h_x2 h)<|Rq Y (.guarded ((!y) == false) Y Y Y Y fun h => v_loadS_r (ow Y h) tS47<|at_get<|at_at (o := 0) (o' := ((Int.toNat 2) * 1)) (at_all arL)<|at_v1<|gdT h_x2 h)<|bE h fun y2 h_y2 h=>Rq Y (.guarded ((!y) == false) Y Y Y Y fun h => v_call (ok_frame_odd<|gdT h_y2 h)<|.cons (ow Y h) (.b Y) .nil)<|Rq Y (.guarded ((!y) == false) Y Y Y Y fun h => v_not<|ow Y h)<|Rq Y (v_or (ov Y) fun hp=>ow Y<|gF hp)<|R_nil<|K2 1 13 Y<|If h Y (fun h=>?_) fun h=>?_
 ·
  refine K0<|Tr<|Ra Y<|Ra Y<|R_nil<|?_
  obtain rfl := rt h
  exact T_ret (retq Y (.two (rb Y)<|rb Y))
 ·
  refine T_skip<|K1 1 Y<|Tr<|bE h fun y3 h_y3 h=>Rq Y (v_call (ok_frame_numberOf h_y3)<|.cons (ov Y) (.b Y) .nil)<|Ra Y<|Ra Y<|R_nil<|?_
  obtain rfl := rt h
  exact T_ret (retq Y (.two (rb Y)<|rb Y))
theorem ok_salvage_newFinder {h_ : List Int} {r : salvage_finder} (h : salvage_newFinder h_ = some r) :
 CSpec Tryz.prog gl0 105 [.sl 5 (List.map R5 h_)] (.rp [.sl 5 (List.map R5 r.h_), .sl 158 (List.map R158 r.certain), .sl 3 (List.map R3 r.numbers), .any] 0) := by
 unfold salvage_newFinder at h
 replace h := bnd0 h
 refine So Tryz.func105 Y fun w0 A=>Tr<|Ra Y<|R_nil<|K1 0 Y<|Tr<|Rm Y<|Rm Y<|bE h fun y h_y h=>Rx Y (w_callG [] (ok_salvage_certain_o h_y) (.cons (ov Y) (.dat Y) .nil) .nil Y (.lent 0 (.inr ⟨Nat.le_of_ble_eq_true Y, Y⟩) Y (roM D158) .nil) Y Y<|.own _<|.inr ⟨Nat.le_of_ble_eq_true Y, Y⟩)<|Rx Y (w_makeMap 1 Y tMp154)<|Rq Y (v_build (ys := [_, _, _, _]) tPL156 tHA156 tZ156 (.cons (cvs (ov Y)<|cell1_b Y)<|.cons (cvs (ov Y)<|cell1_b Y)<|.cons (cvs (ov Y)<|cell1_b Y) .nil) Y)<|Rx Y (w_box 2 Y (ov Y) tA156 Y)<|Ra Y<|R_nil<|I2 (fun numbers at__=>⟨[(3, .ptr 0 1 0 0)], [some ⟨156, [[.sl 5 (List.map R5 h_), .own 1 y.length, .own 2 numbers.length, .mref 3 1]]⟩, some ⟨158, List.map R158 y⟩, some ⟨3, List.map R3 numbers⟩, some ⟨154, [[.mcon (List.map (mrow FK3 FV3) at__)]]⟩]⟩) h (fun h=>?_) fun numbers at__ h=>?_
 ·
  refine K1 3 Y<|Tr<|Rm Y<|Rq Y (v_nilCheckP (ov Y) Y Y)<|Rq Y (v_fieldP (ov Y) Y Y tF156_1)<|Rq Y (v_loadS (ov Y) Y Y Y tS153 Y)<|Rq Y (v_lenO (ov Y) Y Y tL153)<|Rm Y<|R_nil<|T_block<|?_
  obtain ⟨r1, hl1, ho1⟩ := bndL h
  refine L3 (fun numbers2 at__2 i=>⟨[(3, .ptr 0 1 0 0), (17, .own 1 y.length), (18, .int .i64 (y.length : Int)), (19, .int .i64 i)], [some ⟨156, [[.sl 5 (List.map R5 h_), .own 1 y.length, .own 2 numbers2.length, .mref 3 1]]⟩, some ⟨158, List.map R158 y⟩, some ⟨3, List.map R3 numbers2⟩, some ⟨154, [[.mcon (List.map (mrow FK3 FV3) at__2)]]⟩]⟩) hl1 (ES [some 2, some 0, none, some 1] (hhp := .cons Y (ro1 (by exact tZ_156.symm)<|rlc (.dat Y)<|rlc (.own _ Y)<|rlc (.row Y)<|rlc (.mref _ Y) rln)<|.cons Y (roM D158)<|.row 3<|.cons Y (roMap (fk := FK3) (fv := FV3) (m := ([] : List (Int × Int))) tZ_154 (fun _=>.dat Y) fun _=>.ren<|.dat Y) .nil)) fun n1 numbers2 at__2 i h=>?_
  unfold salvage_newFinder_L1 at h
  refine Tr<|R2 v_lss Y<|R_nil<|T_seq<|If h Y (fun h=>?_) fun h=>?_
  ·
   refine T_skip<|I2 (fun numbers3 at__3=>⟨[(3, .ptr 0 1 0 0), (17, .own 1 y.length), (18, .int .i64 (y.length : Int)), (19, .int .i64 i)], [some ⟨156, [[.sl 5 (List.map R5 h_), .own 1 y.length, .own 2 numbers3.length, .mref 3 1]]⟩, some ⟨158, List.map R158 y⟩, some ⟨3, List.map R3 numbers3⟩, some ⟨154, [[.mcon (List.map (mrow FK3 FV3) at__3)]]⟩]⟩) h (fun h=>?_) fun numbers3 at__3 h=>?_
   ·
    refine T_block<|K4 3 17 18 19 Y<|Tr<|Rm Y<|bE h fun x h_x h=>Rq Y (v_ixOG (ov Y) (ov Y) tL153 Y Y h_x)<|Rq Y (v_loadAR (ov Y) Y Y h_x tA158 (at_sub<|at_all ln0) ln0 (hns := ns7))<|Rx Y (w_alloc (row := (.int .i64 0) :: ((List.map C47 (Vector.replicate 64 0).toList) ++ ([]))) 4 Y tZ158 (by kernel_rfl)<|by exact Eq.symm (Eq.trans (b := 65) ln0 tZ_158.symm))<|Ra Y<|Rx Y (w_store (ov Y) (ov Y) (cells_agg tA158 ln0) Y Y Y (put_le (at_all ln0) ln0) (cell1_all al6)<|put_all<|Eq.trans ln0<|Eq.symm ln0)<|R_nil<|K6 3 4 5 17 18 19 Y<|Tr<|Rq Y (v_fieldP (ov Y) Y Y tF158_1)<|Rq Y (v_loadA (ov Y) Y Y Y tA49 (at_sub at4) arL (hns := (nsM fun _ => Y)))<|bE h fun y2 h_y2 h=>Rq Y (v_call (ok_frame_Number h_y2)<|.cons (ov Y) (.aggB<|arD fun _ => Y) .nil)<|Rm Y<|Rq Y (v_extract (ov Y) Y)<|Rq Y (v_extract (ov Y) Y)<|Ra Y<|Ra Y<|R_nil<|K7 3 4 5 6 17 18 19 Y<|T_draw (cw := md0) (by kernel_rfl)<|D1 7 v_move Y<|Dq 8 Y (v_nilCheckP (ov Y) Y Y)<|Dq 9 Y (v_fieldP (ov Y) Y Y tF156_2)<|Dq 10 Y (v_loadS (ov Y) Y Y Y tS28 Y)<|D1 11 v_move Y<|D_q0 12 (.sl 3<|List.map R3 ([y2.1] : List Int)) Y (by kernel_rfl) Y Y (v_lit tL28 (.cons (cvs (ov Y)<|cell1_b Y) Y (.cons (.b Y) .nil) .nil) Y Y)<|D_free 0 _ Y (by kernel_rfl) Y Y (fun hp'=>v_move<|ov Y)<|D_free 1 _ Y (by kernel_rfl) Y Y (fun hp'=>v_move<|ov Y)<|D_free 14 _ Y (by kernel_rfl) Y Y (fun hp'=>v_move<|ov Y)<|bE h fun l h_l h=>D_many [2, 5, 13] (by kernel_rfl)<|.q Y Y Y (v_nilCheckP (ov Y) Y Y) ?_<|.q Y Y Y (v_fieldP (ov Y) Y Y tF158_0) ?_<|.w Y Y Y (fun h=>by cases h) (fun h=>by cases h) (w_appendG (ov Y) (slv_sl (ov Y) tZ_3) tL28 Y Y Y (fun _=>cell1_all Y) Y h_l) ?_ .nil
    ·
     refine D_many [3, 5, 13] (by kernel_rfl)<|.q Y Y Y (v_fieldP (ov Y) Y Y tF156_3) ?_<|.q Y Y Y (v_fieldP (ov Y) Y Y tF158_0) ?_<|.w Y Y Y (fun h=>by cases h) (fun h=>by cases h) (w_appendG (ov Y) (slv_sl (ov Y) tZ_3) tL28 Y Y Y (fun _=>cell1_all Y) Y h_l) ?_ .nil
     ·
      refine D_many [4, 5, 13] (by kernel_rfl)<|.q Y Y Y (v_loadS (ov Y) Y Y Y tS154 Y) ?_<|.q Y Y Y (v_fieldP (ov Y) Y Y tF158_0) ?_<|.w Y Y Y (fun h=>by cases h) (fun h=>by cases h) (w_appendG (ov Y) (slv_sl (ov Y) tZ_3) tL28 Y Y Y (fun _=>cell1_all Y) Y h_l) ?_ .nil
      ·
       refine Dw 5 13 Y (v_fieldP (ov Y) Y Y tF158_0) (w_appendG (ov Y) (slv_sl (ov Y) tZ_3) tL28 Y Y Y (fun _=>cell1_all Y) Y h_l) ?_ ?_
       ·
        refine Dw 6 13 Y (v_loadS (ov Y) Y Y Y tS3<|at_get at2) (w_appendG (ov Y) (slv_sl (ov Y) tZ_3) tL28 Y Y Y (fun _=>cell1_all Y) Y h_l) ?_ ?_
        ·
         exact Do 13 Y (w_appendG (ov Y) (slv_sl (ov Y) tZ_3) tL28 Y Y Y (fun _=>cell1_all Y) Y h_l)<|Dq 15 Y (v_nilCheckP (ov Y) Y Y)<|Dq 16 Y (v_fieldP (ov Y) Y Y tF156_2)<|Do 17 Y (w_store (ov Y) (ov Y) (cells_scal tS28) Y Y Y (Nat.le_of_ble_eq_true Y) (cell1_all Y) Y)<|Do 18 Y (w_mapEntry (m := at__2) (fk := FK3) (fv := FV3) (k := x.At) (z0 := 0) (ov Y) (ov Y) tMp154 tKO3 Y (fun _=>.b Y)<|zero_scal tZV3 Y)<|Dq 19 Y (v_extract (ov Y) Y)<|Do 20 Y (w_entryStore (m := at__2) (fk := FK3) (fv := FV3) (k := x.At) (v := i) (ov Y) (ov Y) (ov Y) tMp154 Y)<|Dd<|⟨_, h, ES [some 0, some 1, some 2, some 3] (hhp := .cons Y (ro1 (by exact tZ_156.symm)<|rlc (.dat Y)<|rlc (.own _ Y)<|rlc (.own _ Y)<|rlc (.mref _ Y) rln)<|.cons Y (roM D158)<|.cons Y (roM D3)<|.cons Y (roMap (fk := FK3) (fv := FV3) (m := (mput kqI at__2 x.At i)) tZ_154 (fun _=>.dat Y) fun _=>.ren<|.dat Y) .nil)⟩
        ·
         refine Dq 15 Y (v_nilCheckP (ov Y) Y Y)<|Dq 16 Y (v_fieldP (ov Y) Y Y tF156_2)<|Dw 6 17 Y (v_loadS (ov Y) Y Y Y tS3<|at_get at2) (w_store (ov Y) (ov Y) (cells_scal tS28) Y Y Y (Nat.le_of_ble_eq_true Y) (cell1_all Y) Y) ?_ ?_
         ·
          exact Do 17 Y (w_store (ov Y) (ov Y) (cells_scal tS28) Y Y Y (Nat.le_of_ble_eq_true Y) (cell1_all Y) Y)<|Do 18 Y (w_mapEntry (m := at__2) (fk := FK3) (fv := FV3) (k := x.At) (z0 := 0) (ov Y) (ov Y) tMp154 tKO3 Y (fun _=>.b Y)<|zero_scal tZV3 Y)<|Dq 19 Y (v_extract (ov Y) Y)<|Do 20 Y (w_entryStore (m := at__2) (fk := FK3) (fv := FV3) (k := x.At) (v := i) (ov Y) (ov Y) (ov Y) tMp154 Y)<|Dd<|⟨_, h, ES [some 0, some 1, some 2, some 3] (hhp := .cons Y (ro1 (by exact tZ_156.symm)<|rlc (.dat Y)<|rlc (.own _ Y)<|rlc (.own _ Y)<|rlc (.mref _ Y) rln)<|.cons Y (roM D158)<|.cons Y (roM D3)<|.cons Y (roMap (fk := FK3) (fv := FV3) (m := (mput kqI at__2 x.At i)) tZ_154 (fun _=>.dat Y) fun _=>.ren<|.dat Y) .nil)⟩
         ·
          exact Dq 6 Y (v_loadS (ov Y) Y Y Y tS3<|at_get at2)<|Do 18 Y (w_mapEntry (m := at__2) (fk := FK3) (fv := FV3) (k := x.At) (z0 := 0) (ov Y) (ov Y) tMp154 tKO3 Y (fun _=>.b Y)<|zero_scal tZV3 Y)<|Dq 19 Y (v_extract (ov Y) Y)<|Do 20 Y (w_entryStore (m := at__2) (fk := FK3) (fv := FV3) (k := x.At) (v := i) (ov Y) (ov Y) (ov Y) tMp154 Y)<|Dd<|⟨_, h, ES [some 0, some 1, some 2, some 3] (hhp := .cons Y (ro1 (by exact tZ_156.symm)<|rlc (.dat Y)<|rlc (.own _ Y)<|rlc (.own _ Y)<|rlc (.mref _ Y) rln)<|.cons Y (roM D158)<|.cons Y (roM D3)<|.cons Y (roMap (fk := FK3) (fv := FV3) (m := (mput kqI at__2 x.At i)) tZ_154 (fun _=>.dat Y) fun _=>.ren<|.dat Y) .nil)⟩
       ·
        refine Dq 15 Y (v_nilCheckP (ov Y) Y Y)<|Dq 16 Y (v_fieldP (ov Y) Y Y tF156_2)<|Dw 5 17 Y (v_fieldP (ov Y) Y Y tF158_0) (w_store (ov Y) (ov Y) (cells_scal tS28) Y Y Y (Nat.le_of_ble_eq_true Y) (cell1_all Y) Y) ?_ ?_
        ·
         refine Dw 6 17 Y (v_loadS (ov Y) Y Y Y tS3<|at_get at2) (w_store (ov Y) (ov Y) (cells_scal tS28) Y Y Y (Nat.le_of_ble_eq_true Y) (cell1_all Y) Y) ?_ ?_
         ·
          exact Do 17 Y (w_store (ov Y) (ov Y) (cells_scal tS28) Y Y Y (Nat.le_of_ble_eq_true Y) (cell1_all Y) Y)<|Do 18 Y (w_mapEntry (m := at__2) (fk := FK3) (fv := FV3) (k := x.At) (z0 := 0) (ov Y) (ov Y) tMp154 tKO3 Y (fun _=>.b Y)<|zero_scal tZV3 Y)<|Dq 19 Y (v_extract (ov Y) Y)<|Do 20 Y (w_entryStore (m := at__2) (fk := FK3) (fv := FV3) (k := x.At) (v := i) (ov Y) (ov Y) (ov Y) tMp154 Y)<|Dd<|⟨_, h, ES [some 0, some 1, some 2, some 3] (hhp := .cons Y (ro1 (by exact tZ_156.symm)<|rlc (.dat Y)<|rlc (.own _ Y)<|rlc (.own _ Y)<|rlc (.mref _ Y) rln)<|.cons Y (roM D158)<|.cons Y (roM D3)<|.cons Y (roMap (fk := FK3) (fv := FV3) (m := (mput kqI at__2 x.At i)) tZ_154 (fun _=>.dat Y) fun _=>.ren<|.dat Y) .nil)⟩
         ·
          exact Dq 6 Y (v_loadS (ov Y) Y Y Y tS3<|at_get at2)<|Do 18 Y (w_mapEntry (m := at__2) (fk := FK3) (fv := FV3) (k := x.At) (z0 := 0) (ov Y) (ov Y) tMp154 tKO3 Y (fun _=>.b Y)<|zero_scal tZV3 Y)<|Dq 19 Y (v_extract (ov Y) Y)<|Do 20 Y (w_entryStore (m := at__2) (fk := FK3) (fv := FV3) (k := x.At) (v := i) (ov Y) (ov Y) (ov Y) tMp154 Y)<|Dd<|⟨_, h, ES [some 0, some 1, some 2, some 3] (hhp := .cons Y (ro1 (by exact tZ_156.symm)<|rlc (.dat Y)<|rlc (.own _ Y)<|rlc (.own _ Y)<|rlc (.mref _ Y) rln)<|.cons Y (roM D158)<|.cons Y (roM D3)<|.cons Y (roMap (fk := FK3) (fv := FV3) (m := (mput kqI at__2 x.At i)) tZ_154 (fun _=>.dat Y) fun _=>.ren<|.dat Y) .nil)⟩
        ·
         exact Dq 5 Y (v_fieldP (ov Y) Y Y tF158_0)<|Dq 6 Y (v_loadS (ov Y) Y Y Y tS3<|at_get at2)<|Do 18 Y (w_mapEntry (m := at__2) (fk := FK3) (fv := FV3) (k := x.At) (z0 := 0) (ov Y) (ov Y) tMp154 tKO3 Y (fun _=>.b Y)<|zero_scal tZV3 Y)<|Dq 19 Y (v_extract (ov Y) Y)<|Do 20 Y (w_entryStore (m := at__2) (fk := FK3) (fv := FV3) (k := x.At) (v := i) (ov Y) (ov Y) (ov Y) tMp154 Y)<|Dd<|⟨_, h, ES [some 0, some 1, some 2, some 3] (hhp := .cons Y (ro1 (by exact tZ_156.symm)<|rlc (.dat Y)<|rlc (.own _ Y)<|rlc (.own _ Y)<|rlc (.mref _ Y) rln)<|.cons Y (roM D158)<|.cons Y (roM D3)<|.cons Y (roMap (fk := FK3) (fv := FV3) (m := (mput kqI at__2 x.At i)) tZ_154 (fun _=>.dat Y) fun _=>.ren<|.dat Y) .nil)⟩
      ·
       refine D_many [4, 6, 13] (by kernel_rfl)<|.q Y Y Y (v_loadS (ov Y) Y Y Y tS154 Y) ?_<|.q Y Y Y (v_loadS (ov Y) Y Y Y tS3<|at_get at2) ?_<|.w Y Y Y (fun h=>by cases h) (fun h=>by cases h) (w_appendG (ov Y) (slv_sl (ov Y) tZ_3) tL28 Y Y Y (fun _=>cell1_all Y) Y h_l) ?_ .nil
       ·
        refine Dw 6 13 Y (v_loadS (ov Y) Y Y Y tS3<|at_get at2) (w_appendG (ov Y) (slv_sl (ov Y) tZ_3) tL28 Y Y Y (fun _=>cell1_all Y) Y h_l) ?_ ?_
        ·
         exact Do 13 Y (w_appendG (ov Y) (slv_sl (ov Y) tZ_3) tL28 Y Y Y (fun _=>cell1_all Y) Y h_l)<|Dq 15 Y (v_nilCheckP (ov Y) Y Y)<|Dq 16 Y (v_fieldP (ov Y) Y Y tF156_2)<|Do 17 Y (w_store (ov Y) (ov Y) (cells_scal tS28) Y Y Y (Nat.le_of_ble_eq_true Y) (cell1_all Y) Y)<|Do 18 Y (w_mapEntry (m := at__2) (fk := FK3) (fv := FV3) (k := x.At) (z0 := 0) (ov Y) (ov Y) tMp154 tKO3 Y (fun _=>.b Y)<|zero_scal tZV3 Y)<|Dq 19 Y (v_extract (ov Y) Y)<|Do 20 Y (w_entryStore (m := at__2) (fk := FK3) (fv := FV3) (k := x.At) (v := i) (ov Y) (ov Y) (ov Y) tMp154 Y)<|Dd<|⟨_, h, ES [some 0, some 1, some 2, some 3] (hhp := .cons Y (ro1 (by exact tZ_156.symm)<|rlc (.dat Y)<|rlc (.own _ Y)<|rlc (.own _ Y)<|rlc (.mref _ Y) rln)<|.cons Y (roM D158)<|.cons Y (roM D3)<|.cons Y (roMap (fk := FK3) (fv := FV3) (m := (mput kqI at__2 x.At i)) tZ_154 (fun _=>.dat Y) fun _=>.ren<|.dat Y) .nil)⟩
        ·
         refine Dq 15 Y (v_nilCheckP (ov Y) Y Y)<|Dq 16 Y (v_fieldP (ov Y) Y Y tF156_2)<|Dw 6 17 Y (v_loadS (ov Y) Y Y Y tS3<|at_get at2) (w_store (ov Y) (ov Y) (cells_scal tS28) Y Y Y (Nat.le_of_ble_eq_true Y) (cell1_all Y) Y) ?_ ?_
         ·
          exact Do 17 Y (w_store (ov Y) (ov Y) (cells_scal tS28) Y Y Y (Nat.le_of_ble_eq_true Y) (cell1_all Y) Y)<|Do 18 Y (w_mapEntry (m := at__2) (fk := FK3) (fv := FV3) (k := x.At) (z0 := 0) (ov Y) (ov Y) tMp154 tKO3 Y (fun _=>.b Y)<|zero_scal tZV3 Y)<|Dq 19 Y (v_extract (ov Y) Y)<|Do 20 Y (w_entryStore (m := at__2) (fk := FK3) (fv := FV3) (k := x.At) (v := i) (ov Y) (ov Y) (ov Y) tMp154 Y)<|Dd<|⟨_, h, ES [some 0, some 1, some 2, some 3] (hhp := .cons Y (ro1 (by exact tZ_156.symm)<|rlc (.dat Y)<|rlc (.own _ Y)<|rlc (.own _ Y)<|rlc (.mref _ Y) rln)<|.cons Y (roM D158)<|.cons Y (roM D3)<|.cons Y (roMap (fk := FK3) (fv := FV3) (m := (mput kqI at__2 x.At i)) tZ_154 (fun _=>.dat Y) fun _=>.ren<|.dat Y) .nil)⟩
         ·
          exact Dq 6 Y (v_loadS (ov Y) Y Y Y tS3<|at_get at2)<|Do 18 Y (w_mapEntry (m := at__2) (fk := FK3) (fv := FV3) (k := x.At) (z0 := 0) (ov Y) (ov Y) tMp154 tKO3 Y (fun _=>.b Y)<|zero_scal tZV3 Y)<|Dq 19 Y (v_extract (ov Y) Y)<|Do 20 Y (w_entryStore (m := at__2) (fk := FK3) (fv := FV3) (k := x.At) (v := i) (ov Y) (ov Y) (ov Y) tMp154 Y)<|Dd<|⟨_, h, ES [some 0, some 1, some 2, some 3] (hhp := .cons Y (ro1 (by exact tZ_156.symm)<|rlc (.dat Y)<|rlc (.own _ Y)<|rlc (.own _ Y)<|rlc (.mref _ Y) rln)<|.cons Y (roM D158)<|.cons Y (roM D3)<|.cons Y (roMap (fk := FK3) (fv := FV3) (m := (mput kqI at__2 x.At i)) tZ_154 (fun _=>.dat Y) fun _=>.ren<|.dat Y) .nil)⟩
       ·
        refine Dw 4 13 Y (v_loadS (ov Y) Y Y Y tS154 Y) (w_appendG (ov Y) (slv_sl (ov Y) tZ_3) tL28 Y Y Y (fun _=>cell1_all Y) Y h_l) ?_ ?_
        ·
         exact Do 13 Y (w_appendG (ov Y) (slv_sl (ov Y) tZ_3) tL28 Y Y Y (fun _=>cell1_all Y) Y h_l)<|Dq 15 Y (v_nilCheckP (ov Y) Y Y)<|Dq 16 Y (v_fieldP (ov Y) Y Y tF156_2)<|Do 17 Y (w_store (ov Y) (ov Y) (cells_scal tS28) Y Y Y (Nat.le_of_ble_eq_true Y) (cell1_all Y) Y)<|Do 18 Y (w_mapEntry (m := at__2) (fk := FK3) (fv := FV3) (k := x.At) (z0 := 0) (ov Y) (ov Y) tMp154 tKO3 Y (fun _=>.b Y)<|zero_scal tZV3 Y)<|Dq 19 Y (v_extract (ov Y) Y)<|Do 20 Y (w_entryStore (m := at__2) (fk := FK3) (fv := FV3) (k := x.At) (v := i) (ov Y) (ov Y) (ov Y) tMp154 Y)<|Dd<|⟨_, h, ES [some 0, some 1, some 2, some 3] (hhp := .cons Y (ro1 (by exact tZ_156.symm)<|rlc (.dat Y)<|rlc (.own _ Y)<|rlc (.own _ Y)<|rlc (.mref _ Y) rln)<|.cons Y (roM D158)<|.cons Y (roM D3)<|.cons Y (roMap (fk := FK3) (fv := FV3) (m := (mput kqI at__2 x.At i)) tZ_154 (fun _=>.dat Y) fun _=>.ren<|.dat Y) .nil)⟩
        ·
         exact Dq 4 Y (v_loadS (ov Y) Y Y Y tS154 Y)<|Dq 15 Y (v_nilCheckP (ov Y) Y Y)<|Dq 16 Y (v_fieldP (ov Y) Y Y tF156_2)<|Do 17 Y (w_store (ov Y) (ov Y) (cells_scal tS28) Y Y Y (Nat.le_of_ble_eq_true Y) (cell1_all Y) Y)<|Do 18 Y (w_mapEntry (m := at__2) (fk := FK3) (fv := FV3) (k := x.At) (z0 := 0) (ov Y) (ov Y) tMp154 tKO3 Y (fun _=>.b Y)<|zero_scal tZV3 Y)<|Dq 19 Y (v_extract (ov Y) Y)<|Do 20 Y (w_entryStore (m := at__2) (fk := FK3) (fv := FV3) (k := x.At) (v := i) (ov Y) (ov Y) (ov Y) tMp154 Y)<|Dd<|⟨_, h, ES [some 0, some 1, some 2, some 3] (hhp := .cons Y (ro1 (by exact tZ_156.symm)<|rlc (.dat Y)<|rlc (.own _ Y)<|rlc (.own _ Y)<|rlc (.mref _ Y) rln)<|.cons Y (roM D158)<|.cons Y (roM D3)<|.cons Y (roMap (fk := FK3) (fv := FV3) (m := (mput kqI at__2 x.At i)) tZ_154 (fun _=>.dat Y) fun _=>.ren<|.dat Y) .nil)⟩
       ·
        refine Dq 4 Y (v_loadS (ov Y) Y Y Y tS154 Y)<|Dq 15 Y (v_nilCheckP (ov Y) Y Y)<|Dq 16 Y (v_fieldP (ov Y) Y Y tF156_2)<|Dw 6 17 Y (v_loadS (ov Y) Y Y Y tS3<|at_get at2) (w_store (ov Y) (ov Y) (cells_scal tS28) Y Y Y (Nat.le_of_ble_eq_true Y) (cell1_all Y) Y) ?_ ?_
        ·
         exact Do 17 Y (w_store (ov Y) (ov Y) (cells_scal tS28) Y Y Y (Nat.le_of_ble_eq_true Y) (cell1_all Y) Y)<|Do 18 Y (w_mapEntry (m := at__2) (fk := FK3) (fv := FV3) (k := x.At) (z0 := 0) (ov Y) (ov Y) tMp154 tKO3 Y (fun _=>.b Y)<|zero_scal tZV3 Y)<|Dq 19 Y (v_extract (ov Y) Y)<|Do 20 Y (w_entryStore (m := at__2) (fk := FK3) (fv := FV3) (k := x.At) (v := i) (ov Y) (ov Y) (ov Y) tMp154 Y)<|Dd<|⟨_, h, ES [some 0, some 1, some 2, some 3] (hhp := .cons Y (ro1 (by exact tZ_156.symm)<|rlc (.dat Y)<|rlc (.own _ Y)<|rlc (.own _ Y)<|rlc (.mref _ Y) rln)<|.cons Y (roM D158)<|.cons Y (roM D3)<|.cons Y (roMap (fk := FK3) (fv := FV3) (m := (mput kqI at__2 x.At i)) tZ_154 (fun _=>.dat Y) fun _=>.ren<|.dat Y) .nil)⟩
        ·
         exact Dq 6 Y (v_loadS (ov Y) Y Y Y tS3<|at_get at2)<|Do 18 Y (w_mapEntry (m := at__2) (fk := FK3) (fv := FV3) (k := x.At) (z0 := 0) (ov Y) (ov Y) tMp154 tKO3 Y (fun _=>.b Y)<|zero_scal tZV3 Y)<|Dq 19 Y (v_extract (ov Y) Y)<|Do 20 Y (w_entryStore (m := at__2) (fk := FK3) (fv := FV3) (k := x.At) (v := i) (ov Y) (ov Y) (ov Y) tMp154 Y)<|Dd<|⟨_, h, ES [some 0, some 1, some 2, some 3] (hhp := .cons Y (ro1 (by exact tZ_156.symm)<|rlc (.dat Y)<|rlc (.own _ Y)<|rlc (.own _ Y)<|rlc (.mref _ Y) rln)<|.cons Y (roM D158)<|.cons Y (roM D3)<|.cons Y (roMap (fk := FK3) (fv := FV3) (m := (mput kqI at__2 x.At i)) tZ_154 (fun _=>.dat Y) fun _=>.ren<|.dat Y) .nil)⟩
      ·
       refine Dq 4 Y (v_loadS (ov Y) Y Y Y tS154 Y)<|Dq 15 Y (v_nilCheckP (ov Y) Y Y)<|Dq 16 Y (v_fieldP (ov Y) Y Y tF156_2)<|Dw 5 17 Y (v_fieldP (ov Y) Y Y tF158_0) (w_store (ov Y) (ov Y) (cells_scal tS28) Y Y Y (Nat.le_of_ble_eq_true Y) (cell1_all Y) Y) ?_ ?_
       ·
        refine Dw 6 17 Y (v_loadS (ov Y) Y Y Y tS3<|at_get at2) (w_store (ov Y) (ov Y) (cells_scal tS28) Y Y Y (Nat.le_of_ble_eq_true Y) (cell1_all Y) Y) ?_ ?_
        ·
         exact Do 17 Y (w_store (ov Y) (ov Y) (cells_scal tS28) Y Y Y (Nat.le_of_ble_eq_true Y) (cell1_all Y) Y)<|Do 18 Y (w_mapEntry (m := at__2) (fk := FK3) (fv := FV3) (k := x.At) (z0 := 0) (ov Y) (ov Y) tMp154 tKO3 Y (fun _=>.b Y)<|zero_scal tZV3 Y)<|Dq 19 Y (v_extract (ov Y) Y)<|Do 20 Y (w_entryStore (m := at__2) (fk := FK3) (fv := FV3) (k := x.At) (v := i) (ov Y) (ov Y) (ov Y) tMp154 Y)<|Dd<|⟨_, h, ES [some 0, some 1, some 2, some 3] (hhp := .cons Y (ro1 (by exact tZ_156.symm)<|rlc (.dat Y)<|rlc (.own _ Y)<|rlc (.own _ Y)<|rlc (.mref _ Y) rln)<|.cons Y (roM D158)<|.cons Y (roM D3)<|.cons Y (roMap (fk := FK3) (fv := FV3) (m := (mput kqI at__2 x.At i)) tZ_154 (fun _=>.dat Y) fun _=>.ren<|.dat Y) .nil)⟩
        ·
         exact Dq 6 Y (v_loadS (ov Y) Y Y Y tS3<|at_get at2)<|Do 18 Y (w_mapEntry (m := at__2) (fk := FK3) (fv := FV3) (k := x.At) (z0 := 0) (ov Y) (ov Y) tMp154 tKO3 Y (fun _=>.b Y)<|zero_scal tZV3 Y)<|Dq 19 Y (v_extract (ov Y) Y)<|Do 20 Y (w_entryStore (m := at__2) (fk := FK3) (fv := FV3) (k := x.At) (v := i) (ov Y) (ov Y) (ov Y) tMp154 Y)<|Dd<|⟨_, h, ES [some 0, some 1, some 2, some 3] (hhp := .cons Y (ro1 (by exact tZ_156.symm)<|rlc (.dat Y)<|rlc (.own _ Y)<|rlc (.own _ Y)<|rlc (.mref _ Y) rln)<|.cons Y (roM D158)<|.cons Y (roM D3)<|.cons Y (roMap (fk := FK3) (fv := FV3) (m := (mput kqI at__2 x.At i)) tZ_154 (fun _=>.dat Y) fun _=>.ren<|.dat Y) .nil)⟩
       ·
        exact Dq 5 Y (v_fieldP (ov Y) Y Y tF158_0)<|Dq 6 Y (v_loadS (ov Y) Y Y Y tS3<|at_get at2)<|Do 18 Y (w_mapEntry (m := at__2) (fk := FK3) (fv := FV3) (k := x.At) (z0 := 0) (ov Y) (ov Y) tMp154 tKO3 Y (fun _=>.b Y)<|zero_scal tZV3 Y)<|Dq 19 Y (v_extract (ov Y) Y)<|Do 20 Y (w_entryStore (m := at__2) (fk := FK3) (fv := FV3) (k := x.At) (v := i) (ov Y) (ov Y) (ov Y) tMp154 Y)<|Dd<|⟨_, h, ES [some 0, some 1, some 2, some 3] (hhp := .cons Y (ro1 (by exact tZ_156.symm)<|rlc (.dat Y)<|rlc (.own _ Y)<|rlc (.own _ Y)<|rlc (.mref _ Y) rln)<|.cons Y (roM D158)<|.cons Y (roM D3)<|.cons Y (roMap (fk := FK3) (fv := FV3) (m := (mput kqI at__2 x.At i)) tZ_154 (fun _=>.dat Y) fun _=>.ren<|.dat Y) .nil)⟩
     ·
      refine D_many [3, 6, 13] (by kernel_rfl)<|.q Y Y Y (v_fieldP (ov Y) Y Y tF156_3) ?_<|.q Y Y Y (v_loadS (ov Y) Y Y Y tS3<|at_get at2) ?_<|.w Y Y Y (fun h=>by cases h) (fun h=>by cases h) (w_appendG (ov Y) (slv_sl (ov Y) tZ_3) tL28 Y Y Y (fun _=>cell1_all Y) Y h_l) ?_ .nil
      ·
       refine D_many [4, 6, 13] (by kernel_rfl)<|.q Y Y Y (v_loadS (ov Y) Y Y Y tS154 Y) ?_<|.q Y Y Y (v_loadS (ov Y) Y Y Y tS3<|at_get at2) ?_<|.w Y Y Y (fun h=>by cases h) (fun h=>by cases h) (w_appendG (ov Y) (slv_sl (ov Y) tZ_3) tL28 Y Y Y (fun _=>cell1_all Y) Y h_l) ?_ .nil
       ·
        refine Dw 6 13 Y (v_loadS (ov Y) Y Y Y tS3<|at_get at2) (w_appendG (ov Y) (slv_sl (ov Y) tZ_3) tL28 Y Y Y (fun _=>cell1_all Y) Y h_l) ?_ ?_
        ·
         exact Do 13 Y (w_appendG (ov Y) (slv_sl (ov Y) tZ_3) tL28 Y Y Y (fun _=>cell1_all Y) Y h_l)<|Dq 15 Y (v_nilCheckP (ov Y) Y Y)<|Dq 16 Y (v_fieldP (ov Y) Y Y tF156_2)<|Do 17 Y (w_store (ov Y) (ov Y) (cells_scal tS28) Y Y Y (Nat.le_of_ble_eq_true Y) (cell1_all Y) Y)<|Do 18 Y (w_mapEntry (m := at__2) (fk := FK3) (fv := FV3) (k := x.At) (z0 := 0) (ov Y) (ov Y) tMp154 tKO3 Y (fun _=>.b Y)<|zero_scal tZV3 Y)<|Dq 19 Y (v_extract (ov Y) Y)<|Do 20 Y (w_entryStore (m := at__2) (fk := FK3) (fv := FV3) (k := x.At) (v := i) (ov Y) (ov Y) (ov Y) tMp154 Y)<|Dd<|⟨_, h, ES [some 0, some 1, some 2, some 3] (hhp := .cons Y (ro1 (by exact tZ_156.symm)<|rlc (.dat Y)<|rlc (.own _ Y)<|rlc (.own _ Y)<|rlc (.mref _ Y) rln)<|.cons Y (roM D158)<|.cons Y (roM D3)<|.cons Y (roMap (fk := FK3) (fv := FV3) (m := (mput kqI at__2 x.At i)) tZ_154 (fun _=>.dat Y) fun _=>.ren<|.dat Y) .nil)⟩
        ·
         refine Dq 15 Y (v_nilCheckP (ov Y) Y Y)<|Dq 16 Y (v_fieldP (ov Y) Y Y tF156_2)<|Dw 6 17 Y (v_loadS (ov Y) Y Y Y tS3<|at_get at2) (w_store (ov Y) (ov Y) (cells_scal tS28) Y Y Y (Nat.le_of_ble_eq_true Y) (cell1_all Y) Y) ?_ ?_
         ·
          exact Do 17 Y (w_store (ov Y) (ov Y) (cells_scal tS28) Y Y Y (Nat.le_of_ble_eq_true Y) (cell1_all Y) Y)<|Do 18 Y (w_mapEntry (m := at__2) (fk := FK3) (fv := FV3) (k := x.At) (z0 := 0) (ov Y) (ov Y) tMp154 tKO3 Y (fun _=>.b Y)<|zero_scal tZV3 Y)<|Dq 19 Y (v_extract (ov Y) Y)<|Do 20 Y (w_entryStore (m := at__2) (fk := FK3) (fv := FV3) (k := x.At) (v := i) (ov Y) (ov Y) (ov Y) tMp154 Y)<|Dd<|⟨_, h, ES [some 0, some 1, some 2, some 3] (hhp := .cons Y (ro1 (by exact tZ_156.symm)<|rlc (.dat Y)<|rlc (.own _ Y)<|rlc (.own _ Y)<|rlc (.mref _ Y) rln)<|.cons Y (roM D158)<|.cons Y (roM D3)<|.cons Y (roMap (fk := FK3) (fv := FV3) (m := (mput kqI at__2 x.At i)) tZ_154 (fun _=>.dat Y) fun _=>.ren<|.dat Y) .nil)⟩
         ·
          exact Dq 6 Y (v_loadS (ov Y) Y Y Y tS3<|at_get at2)<|Do 18 Y (w_mapEntry (m := at__2) (fk := FK3) (fv := FV3) (k := x.At) (z0 := 0) (ov Y) (ov Y) tMp154 tKO3 Y (fun _=>.b Y)<|zero_scal tZV3 Y)<|Dq 19 Y (v_extract (ov Y) Y)<|Do 20 Y (w_entryStore (m := at__2) (fk := FK3) (fv := FV3) (k := x.At) (v := i) (ov Y) (ov Y) (ov Y) tMp154 Y)<|Dd<|⟨_, h, ES [some 0, some 1, some 2, some 3] (hhp := .cons Y (ro1 (by exact tZ_156.symm)<|rlc (.dat Y)<|rlc (.own _ Y)<|rlc (.own _ Y)<|rlc (.mref _ Y) rln)<|.cons Y (roM D158)<|.cons Y (roM D3)<|.cons Y (roMap (fk := FK3) (fv := FV3) (m := (mput kqI at__2 x.At i)) tZ_154 (fun _=>.dat Y) fun _=>.ren<|.dat Y) .nil)⟩
       ·
        refine Dw 4 13 Y (v_loadS (ov Y) Y Y Y tS154 Y) (w_appendG (ov Y) (slv_sl (ov Y) tZ_3) tL28 Y Y Y (fun _=>cell1_all Y) Y h_l) ?_ ?_
        ·
         exact Do 13 Y (w_appendG (ov Y) (slv_sl (ov Y) tZ_3) tL28 Y Y Y (fun _=>cell1_all Y) Y h_l)<|Dq 15 Y (v_nilCheckP (ov Y) Y Y)<|Dq 16 Y (v_fieldP (ov Y) Y Y tF156_2)<|Do 17 Y (w_store (ov Y) (ov Y) (cells_scal tS28) Y Y Y (Nat.le_of_ble_eq_true Y) (cell1_all Y) Y)<|Do 18 Y (w_mapEntry (m := at__2) (fk := FK3) (fv := FV3) (k := x.At) (z0 := 0) (ov Y) (ov Y) tMp154 tKO3 Y (fun _=>.b Y)<|zero_scal tZV3 Y)<|Dq 19 Y (v_extract (ov Y) Y)<|Do 20 Y (w_entryStore (m := at__2) (fk := FK3) (fv := FV3) (k := x.At) (v := i) (ov Y) (ov Y) (ov Y) tMp154 Y)<|Dd<|⟨_, h, ES [some 0, some 1, some 2, some 3] (hhp := .cons Y (ro1 (by exact tZ_156.symm)<|rlc (.dat Y)<|rlc (.own _ Y)<|rlc (.own _ Y)<|rlc (.mref _ Y) rln)<|.cons Y (roM D158)<|.cons Y (roM D3)<|.cons Y (roMap (fk := FK3) (fv := FV3) (m := (mput kqI at__2 x.At i)) tZ_154 (fun _=>.dat Y) fun _=>.ren<|.dat Y) .nil)⟩
        ·
         exact Dq 4 Y (v_loadS (ov Y) Y Y Y tS154 Y)<|Dq 15 Y (v_nilCheckP (ov Y) Y Y)<|Dq 16 Y (v_fieldP (ov Y) Y Y tF156_2)<|Do 17 Y (w_store (ov Y) (ov Y) (cells_scal tS28) Y Y Y (Nat.le_of_ble_eq_true Y) (cell1_all Y) Y)<|Do 18 Y (w_mapEntry (m := at__2) (fk := FK3) (fv := FV3) (k := x.At) (z0 := 0) (ov Y) (ov Y) tMp154 tKO3 Y (fun _=>.b Y)<|zero_scal tZV3 Y)<|Dq 19 Y (v_extract (ov Y) Y)<|Do 20 Y (w_entryStore (m := at__2) (fk := FK3) (fv := FV3) (k := x.At) (v := i) (ov Y) (ov Y) (ov Y) tMp154 Y)<|Dd<|⟨_, h, ES [some 0, some 1, some 2, some 3] (hhp := .cons Y (ro1 (by exact tZ_156.symm)<|rlc (.dat Y)<|rlc (.own _ Y)<|rlc (.own _ Y)<|rlc (.mref _ Y) rln)<|.cons Y (roM D158)<|.cons Y (roM D3)<|.cons Y (roMap (fk := FK3) (fv := FV3) (m := (mput kqI at__2 x.At i)) tZ_154 (fun _=>.dat Y) fun _=>.ren<|.dat Y) .nil)⟩
       ·
        refine Dq 4 Y (v_loadS (ov Y) Y Y Y tS154 Y)<|Dq 15 Y (v_nilCheckP (ov Y) Y Y)<|Dq 16 Y (v_fieldP (ov Y) Y Y tF156_2)<|Dw 6 17 Y (v_loadS (ov Y) Y Y Y tS3<|at_get at2) (w_store (ov Y) (ov Y) (cells_scal tS28) Y Y Y (Nat.le_of_ble_eq_true Y) (cell1_all Y) Y) ?_ ?_
        ·
         exact Do 17 Y (w_store (ov Y) (ov Y) (cells_scal tS28) Y Y Y (Nat.le_of_ble_eq_true Y) (cell1_all Y) Y)<|Do 18 Y (w_mapEntry (m := at__2) (fk := FK3) (fv := FV3) (k := x.At) (z0 := 0) (ov Y) (ov Y) tMp154 tKO3 Y (fun _=>.b Y)<|zero_scal tZV3 Y)<|Dq 19 Y (v_extract (ov Y) Y)<|Do 20 Y (w_entryStore (m := at__2) (fk := FK3) (fv := FV3) (k := x.At) (v := i) (ov Y) (ov Y) (ov Y) tMp154 Y)<|Dd<|⟨_, h, ES [some 0, some 1, some 2, some 3] (hhp := .cons Y (ro1 (by exact tZ_156.symm)<|rlc (.dat Y)<|rlc (.own _ Y)<|rlc (.own _ Y)<|rlc (.mref _ Y) rln)<|.cons Y (roM D158)<|.cons Y (roM D3)<|.cons Y (roMap (fk := FK3) (fv := FV3) (m := (mput kqI at__2 x.At i)) tZ_154 (fun _=>.dat Y) fun _=>.ren<|.dat Y) .nil)⟩
        ·
         exact Dq 6 Y (v_loadS (ov Y) Y Y Y tS3<|at_get at2)<|Do 18 Y (w_mapEntry (m := at__2) (fk := FK3) (fv := FV3) (k := x.At) (z0 := 0) (ov Y) (ov Y) tMp154 tKO3 Y (fun _=>.b Y)<|zero_scal tZV3 Y)<|Dq 19 Y (v_extract (ov Y) Y)<|Do 20 Y (w_entryStore (m := at__2) (fk := FK3) (fv := FV3) (k := x.At) (v := i) (ov Y) (ov Y) (ov Y) tMp154 Y)<|Dd<|⟨_, h, ES [some 0, some 1, some 2, some 3] (hhp := .cons Y (ro1 (by exact tZ_156.symm)<|rlc (.dat Y)<|rlc (.own _ Y)<|rlc (.own _ Y)<|rlc (.mref _ Y) rln)<|.cons Y (roM D158)<|.cons Y (roM D3)<|.cons Y (roMap (fk := FK3) (fv := FV3) (m := (mput kqI at__2 x.At i)) tZ_154 (fun _=>.dat Y) fun _=>.ren<|.dat Y) .nil)⟩
      ·
       refine Dw 3 13 Y (v_fieldP (ov Y) Y Y tF156_3) (w_appendG (ov Y) (slv_sl (ov Y) tZ_3) tL28 Y Y Y (fun _=>cell1_all Y) Y h_l) ?_ ?_
       ·
        refine Dw 4 13 Y (v_loadS (ov Y) Y Y Y tS154 Y) (w_appendG (ov Y) (slv_sl (ov Y) tZ_3) tL28 Y Y Y (fun _=>cell1_all Y) Y h_l) ?_ ?_
        ·
         exact Do 13 Y (w_appendG (ov Y) (slv_sl (ov Y) tZ_3) tL28 Y Y Y (fun _=>cell1_all Y) Y h_l)<|Dq 15 Y (v_nilCheckP (ov Y) Y Y)<|Dq 16 Y (v_fieldP (ov Y) Y Y tF156_2)<|Do 17 Y (w_store (ov Y) (ov Y) (cells_scal tS28) Y Y Y (Nat.le_of_ble_eq_true Y) (cell1_all Y) Y)<|Do 18 Y (w_mapEntry (m := at__2) (fk := FK3) (fv := FV3) (k := x.At) (z0 := 0) (ov Y) (ov Y) tMp154 tKO3 Y (fun _=>.b Y)<|zero_scal tZV3 Y)<|Dq 19 Y (v_extract (ov Y) Y)<|Do 20 Y (w_entryStore (m := at__2) (fk := FK3) (fv := FV3) (k := x.At) (v := i) (ov Y) (ov Y) (ov Y) tMp154 Y)<|Dd<|⟨_, h, ES [some 0, some 1, some 2, some 3] (hhp := .cons Y (ro1 (by exact tZ_156.symm)<|rlc (.dat Y)<|rlc (.own _ Y)<|rlc (.own _ Y)<|rlc (.mref _ Y) rln)<|.cons Y (roM D158)<|.cons Y (roM D3)<|.cons Y (roMap (fk := FK3) (fv := FV3) (m := (mput kqI at__2 x.At i)) tZ_154 (fun _=>.dat Y) fun _=>.ren<|.dat Y) .nil)⟩
        ·
         exact Dq 4 Y (v_loadS (ov Y) Y Y Y tS154 Y)<|Dq 15 Y (v_nilCheckP (ov Y) Y Y)<|Dq 16 Y (v_fieldP (ov Y) Y Y tF156_2)<|Do 17 Y (w_store (ov Y) (ov Y) (cells_scal tS28) Y Y Y (Nat.le_of_ble_eq_true Y) (cell1_all Y) Y)<|Do 18 Y (w_mapEntry (m := at__2) (fk := FK3) (fv := FV3) (k := x.At) (z0 := 0) (ov Y) (ov Y) tMp154 tKO3 Y (fun _=>.b Y)<|zero_scal tZV3 Y)<|Dq 19 Y (v_extract (ov Y) Y)<|Do 20 Y (w_entryStore (m := at__2) (fk := FK3) (fv := FV3) (k := x.At) (v := i) (ov Y) (ov Y) (ov Y) tMp154 Y)<|Dd<|⟨_, h, ES [some 0, some 1, some 2, some 3] (hhp := .cons Y (ro1 (by exact tZ_156.symm)<|rlc (.dat Y)<|rlc (.own _ Y)<|rlc (.own _ Y)<|rlc (.mref _ Y) rln)<|.cons Y (roM D158)<|.cons Y (roM D3)<|.cons Y (roMap (fk := FK3) (fv := FV3) (m := (mput kqI at__2 x.At i)) tZ_154 (fun _=>.dat Y) fun _=>.ren<|.dat Y) .nil)⟩
       ·
        exact Dq 3 Y (v_fieldP (ov Y) Y Y tF156_3)<|Dq 4 Y (v_loadS (ov Y) Y Y Y tS154 Y)<|Dq 15 Y (v_nilCheckP (ov Y) Y Y)<|Dq 16 Y (v_fieldP (ov Y) Y Y tF156_2)<|Do 17 Y (w_store (ov Y) (ov Y) (cells_scal tS28) Y Y Y (Nat.le_of_ble_eq_true Y) (cell1_all Y) Y)<|Do 18 Y (w_mapEntry (m := at__2) (fk := FK3) (fv := FV3) (k := x.At) (z0 := 0) (ov Y) (ov Y) tMp154 tKO3 Y (fun _=>.b Y)<|zero_scal tZV3 Y)<|Dq 19 Y (v_extract (ov Y) Y)<|Do 20 Y (w_entryStore (m := at__2) (fk := FK3) (fv := FV3) (k := x.At) (v := i) (ov Y) (ov Y) (ov Y) tMp154 Y)<|Dd<|⟨_, h, ES [some 0, some 1, some 2, some 3] (hhp := .cons Y (ro1 (by exact tZ_156.symm)<|rlc (.dat Y)<|rlc (.own _ Y)<|rlc (.own _ Y)<|rlc (.mref _ Y) rln)<|.cons Y (roM D158)<|.cons Y (roM D3)<|.cons Y (roMap (fk := FK3) (fv := FV3) (m := (mput kqI at__2 x.At i)) tZ_154 (fun _=>.dat Y) fun _=>.ren<|.dat Y) .nil)⟩
      ·
       refine Dq 3 Y (v_fieldP (ov Y) Y Y tF156_3)<|Dq 4 Y (v_loadS (ov Y) Y Y Y tS154 Y)<|Dq 15 Y (v_nilCheckP (ov Y) Y Y)<|Dq 16 Y (v_fieldP (ov Y) Y Y tF156_2)<|Dw 6 17 Y (v_loadS (ov Y) Y Y Y tS3<|at_get at2) (w_store (ov Y) (ov Y) (cells_scal tS28) Y Y Y (Nat.le_of_ble_eq_true Y) (cell1_all Y) Y) ?_ ?_
       ·
        exact Do 17 Y (w_store (ov Y) (ov Y) (cells_scal tS28) Y Y Y (Nat.le_of_ble_eq_true Y) (cell1_all Y) Y)<|Do 18 Y (w_mapEntry (m := at__2) (fk := FK3) (fv := FV3) (k := x.At) (z0 := 0) (ov Y) (ov Y) tMp154 tKO3 Y (fun _=>.b Y)<|zero_scal tZV3 Y)<|Dq 19 Y (v_extract (ov Y) Y)<|Do 20 Y (w_entryStore (m := at__2) (fk := FK3) (fv := FV3) (k := x.At) (v := i) (ov Y) (ov Y) (ov Y) tMp154 Y)<|Dd<|⟨_, h, ES [some 0, some 1, some 2, some 3] (hhp := .cons Y (ro1 (by exact tZ_156.symm)<|rlc (.dat Y)<|rlc (.own _ Y)<|rlc (.own _ Y)<|rlc (.mref _ Y) rln)<|.cons Y (roM D158)<|.cons Y (roM D3)<|.cons Y (roMap (fk := FK3) (fv := FV3) (m := (mput kqI at__2 x.At i)) tZ_154 (fun _=>.dat Y) fun _=>.ren<|.dat Y) .nil)⟩
       ·
        exact Dq 6 Y (v_loadS (ov Y) Y Y Y tS3<|at_get at2)<|Do 18 Y (w_mapEntry (m := at__2) (fk := FK3) (fv := FV3) (k := x.At) (z0 := 0) (ov Y) (ov Y) tMp154 tKO3 Y (fun _=>.b Y)<|zero_scal tZV3 Y)<|Dq 19 Y (v_extract (ov Y) Y)<|Do 20 Y (w_entryStore (m := at__2) (fk := FK3) (fv := FV3) (k := x.At) (v := i) (ov Y) (ov Y) (ov Y) tMp154 Y)<|Dd<|⟨_, h, ES [some 0, some 1, some 2, some 3] (hhp := .cons Y (ro1 (by exact tZ_156.symm)<|rlc (.dat Y)<|rlc (.own _ Y)<|rlc (.own _ Y)<|rlc (.mref _ Y) rln)<|.cons Y (roM D158)<|.cons Y (roM D3)<|.cons Y (roMap (fk := FK3) (fv := FV3) (m := (mput kqI at__2 x.At i)) tZ_154 (fun _=>.dat Y) fun _=>.ren<|.dat Y) .nil)⟩
     ·
      refine Dq 3 Y (v_fieldP (ov Y) Y Y tF156_3)<|Dq 4 Y (v_loadS (ov Y) Y Y Y tS154 Y)<|Dq 15 Y (v_nilCheckP (ov Y) Y Y)<|Dq 16 Y (v_fieldP (ov Y) Y Y tF156_2)<|Dw 5 17 Y (v_fieldP (ov Y) Y Y tF158_0) (w_store (ov Y) (ov Y) (cells_scal tS28) Y Y Y (Nat.le_of_ble_eq_true Y) (cell1_all Y) Y) ?_ ?_
      ·
       refine Dw 6 17 Y (v_loadS (ov Y) Y Y Y tS3<|at_get at2) (w_store (ov Y) (ov Y) (cells_scal tS28) Y Y Y (Nat.le_of_ble_eq_true Y) (cell1_all Y) Y) ?_ ?_
       ·
        exact Do 17 Y (w_store (ov Y) (ov Y) (cells_scal tS28) Y Y Y (Nat.le_of_ble_eq_true Y) (cell1_all Y) Y)<|Do 18 Y (w_mapEntry (m := at__2) (fk := FK3) (fv := FV3) (k := x.At) (z0 := 0) (ov Y) (ov Y) tMp154 tKO3 Y (fun _=>.b Y)<|zero_scal tZV3 Y)<|Dq 19 Y (v_extract (ov Y) Y)<|Do 20 Y (w_entryStore (m := at__2) (fk := FK3) (fv := FV3) (k := x.At) (v := i) (ov Y) (ov Y) (ov Y) tMp154 Y)<|Dd<|⟨_, h, ES [some 0, some 1, some 2, some 3] (hhp := .cons Y (ro1 (by exact tZ_156.symm)<|rlc (.dat Y)<|rlc (.own _ Y)<|rlc (.own _ Y)<|rlc (.mref _ Y) rln)<|.cons Y (roM D158)<|.cons Y (roM D3)<|.cons Y (roMap (fk := FK3) (fv := FV3) (m := (mput kqI at__2 x.At i)) tZ_154 (fun _=>.dat Y) fun _=>.ren<|.dat Y) .nil)⟩
       ·
        exact Dq 6 Y (v_loadS (ov Y) Y Y Y tS3<|at_get at2)<|Do 18 Y (w_mapEntry (m := at__2) (fk := FK3) (fv := FV3) (k := x.At) (z0 := 0) (ov Y) (ov Y) tMp154 tKO3 Y (fun _=>.b Y)<|zero_scal tZV3 Y)<|Dq 19 Y (v_extract (ov Y) Y)<|Do 20 Y (w_entryStore (m := at__2) (fk := FK3) (fv := FV3) (k := x.At) (v := i) (ov Y) (ov Y) (ov Y) tMp154 Y)<|Dd<|⟨_, h, ES [some 0, some 1, some 2, some 3] (hhp := .cons Y (ro1 (by exact tZ_156.symm)<|rlc (.dat Y)<|rlc (.own _ Y)<|rlc (.own _ Y)<|rlc (.mref _ Y) rln)<|.cons Y (roM D158)<|.cons Y (roM D3)<|.cons Y (roMap (fk := FK3) (fv := FV3) (m := (mput kqI at__2 x.At i)) tZ_154 (fun _=>.dat Y) fun _=>.ren<|.dat Y) .nil)⟩
      ·
       exact Dq 5 Y (v_fieldP (ov Y) Y Y tF158_0)<|Dq 6 Y (v_loadS (ov Y) Y Y Y tS3<|at_get at2)<|Do 18 Y (w_mapEntry (m := at__2) (fk := FK3) (fv := FV3) (k := x.At) (z0 := 0) (ov Y) (ov Y) tMp154 tKO3 Y (fun _=>.b Y)<|zero_scal tZV3 Y)<|Dq 19 Y (v_extract (ov Y) Y)<|Do 20 Y (w_entryStore (m := at__2) (fk := FK3) (fv := FV3) (k := x.At) (v := i) (ov Y) (ov Y) (ov Y) tMp154 Y)<|Dd<|⟨_, h, ES [some 0, some 1, some 2, some 3] (hhp := .cons Y (ro1 (by exact tZ_156.symm)<|rlc (.dat Y)<|rlc (.own _ Y)<|rlc (.own _ Y)<|rlc (.mref _ Y) rln)<|.cons Y (roM D158)<|.cons Y (roM D3)<|.cons Y (roMap (fk := FK3) (fv := FV3) (m := (mput kqI at__2 x.At i)) tZ_154 (fun _=>.dat Y) fun _=>.ren<|.dat Y) .nil)⟩
    ·
     refine D_many [2, 6, 13] (by kernel_rfl)<|.q Y Y Y (v_nilCheckP (ov Y) Y Y) ?_<|.q Y Y Y (v_loadS (ov Y) Y Y Y tS3<|at_get at2) ?_<|.w Y Y Y (fun h=>by cases h) (fun h=>by cases h) (w_appendG (ov Y) (slv_sl (ov Y) tZ_3) tL28 Y Y Y (fun _=>cell1_all Y) Y h_l) ?_ .nil
     ·
      refine D_many [3, 6, 13] (by kernel_rfl)<|.q Y Y Y (v_fieldP (ov Y) Y Y tF156_3) ?_<|.q Y Y Y (v_loadS (ov Y) Y Y Y tS3<|at_get at2) ?_<|.w Y Y Y (fun h=>by cases h) (fun h=>by cases h) (w_appendG (ov Y) (slv_sl (ov Y) tZ_3) tL28 Y Y Y (fun _=>cell1_all Y) Y h_l) ?_ .nil
      ·
       refine D_many [4, 6, 13] (by kernel_rfl)<|.q Y Y Y (v_loadS (ov Y) Y Y Y tS154 Y) ?_<|.q Y Y Y (v_loadS (ov Y) Y Y Y tS3<|at_get at2) ?_<|.w Y Y Y (fun h=>by cases h) (fun h=>by cases h) (w_appendG (ov Y) (slv_sl (ov Y) tZ_3) tL28 Y Y Y (fun _=>cell1_all Y) Y h_l) ?_ .nil
       ·
        refine Dw 6 13 Y (v_loadS (ov Y) Y Y Y tS3<|at_get at2) (w_appendG (ov Y) (slv_sl (ov Y) tZ_3) tL28 Y Y Y (fun _=>cell1_all Y) Y h_l) ?_ ?_
        ·
         exact Do 13 Y (w_appendG (ov Y) (slv_sl (ov Y) tZ_3) tL28 Y Y Y (fun _=>cell1_all Y) Y h_l)<|Dq 15 Y (v_nilCheckP (ov Y) Y Y)<|Dq 16 Y (v_fieldP (ov Y) Y Y tF156_2)<|Do 17 Y (w_store (ov Y) (ov Y) (cells_scal tS28) Y Y Y (Nat.le_of_ble_eq_true Y) (cell1_all Y) Y)<|Do 18 Y (w_mapEntry (m := at__2) (fk := FK3) (fv := FV3) (k := x.At) (z0 := 0) (ov Y) (ov Y) tMp154 tKO3 Y (fun _=>.b Y)<|zero_scal tZV3 Y)<|Dq 19 Y (v_extract (ov Y) Y)<|Do 20 Y (w_entryStore (m := at__2) (fk := FK3) (fv := FV3) (k := x.At) (v := i) (ov Y) (ov Y) (ov Y) tMp154 Y)<|Dd<|⟨_, h, ES [some 0, some 1, some 2, some 3] (hhp := .cons Y (ro1 (by exact tZ_156.symm)<|rlc (.dat Y)<|rlc (.own _ Y)<|rlc (.own _ Y)<|rlc (.mref _ Y) rln)<|.cons Y (roM D158)<|.cons Y (roM D3)<|.cons Y (roMap (fk := FK3) (fv := FV3) (m := (mput kqI at__2 x.At i)) tZ_154 (fun _=>.dat Y) fun _=>.ren<|.dat Y) .nil)⟩
        ·
         refine Dq 15 Y (v_nilCheckP (ov Y) Y Y)<|Dq 16 Y (v_fieldP (ov Y) Y Y tF156_2)<|Dw 6 17 Y (v_loadS (ov Y) Y Y Y tS3<|at_get at2) (w_store (ov Y) (ov Y) (cells_scal tS28) Y Y Y (Nat.le_of_ble_eq_true Y) (cell1_all Y) Y) ?_ ?_
         ·
          exact Do 17 Y (w_store (ov Y) (ov Y) (cells_scal tS28) Y Y Y (Nat.le_of_ble_eq_true Y) (cell1_all Y) Y)<|Do 18 Y (w_mapEntry (m := at__2) (fk := FK3) (fv := FV3) (k := x.At) (z0 := 0) (ov Y) (ov Y) tMp154 tKO3 Y (fun _=>.b Y)<|zero_scal tZV3 Y)<|Dq 19 Y (v_extract (ov Y) Y)<|Do 20 Y (w_entryStore (m := at__2) (fk := FK3) (fv := FV3) (k := x.At) (v := i) (ov Y) (ov Y) (ov Y) tMp154 Y)<|Dd<|⟨_, h, ES [some 0, some 1, some 2, some 3] (hhp := .cons Y (ro1 (by exact tZ_156.symm)<|rlc (.dat Y)<|rlc (.own _ Y)<|rlc (.own _ Y)<|rlc (.mref _ Y) rln)<|.cons Y (roM D158)<|.cons Y (roM D3)<|.cons Y (roMap (fk := FK3) (fv := FV3) (m := (mput kqI at__2 x.At i)) tZ_154 (fun _=>.dat Y) fun _=>.ren<|.dat Y) .nil)⟩
         ·
          exact Dq 6 Y (v_loadS (ov Y) Y Y Y tS3<|at_get at2)<|Do 18 Y (w_mapEntry (m := at__2) (fk := FK3) (fv := FV3) (k := x.At) (z0 := 0) (ov Y) (ov Y) tMp154 tKO3 Y (fun _=>.b Y)<|zero_scal tZV3 Y)<|Dq 19 Y (v_extract (ov Y) Y)<|Do 20 Y (w_entryStore (m := at__2) (fk := FK3) (fv := FV3) (k := x.At) (v := i) (ov Y) (ov Y) (ov Y) tMp154 Y)<|Dd<|⟨_, h, ES [some 0, some 1, some 2, some 3] (hhp := .cons Y (ro1 (by exact tZ_156.symm)<|rlc (.dat Y)<|rlc (.own _ Y)<|rlc (.own _ Y)<|rlc (.mref _ Y) rln)<|.cons Y (roM D158)<|.cons Y (roM D3)<|.cons Y (roMap (fk := FK3) (fv := FV3) (m := (mput kqI at__2 x.At i)) tZ_154 (fun _=>.dat Y) fun _=>.ren<|.dat Y) .nil)⟩
       ·
        refine Dw 4 13 Y (v_loadS (ov Y) Y Y Y tS154 Y) (w_appendG (ov Y) (slv_sl (ov Y) tZ_3) tL28 Y Y Y (fun _=>cell1_all Y) Y h_l) ?_ ?_
        ·
         exact Do 13 Y (w_appendG (ov Y) (slv_sl (ov Y) tZ_3) tL28 Y Y Y (fun _=>cell1_all Y) Y h_l)<|Dq 15 Y (v_nilCheckP (ov Y) Y Y)<|Dq 16 Y (v_fieldP (ov Y) Y Y tF156_2)<|Do 17 Y (w_store (ov Y) (ov Y) (cells_scal tS28) Y Y Y (Nat.le_of_ble_eq_true Y) (cell1_all Y) Y)<|Do 18 Y (w_mapEntry (m := at__2) (fk := FK3) (fv := FV3) (k := x.At) (z0 := 0) (ov Y) (ov Y) tMp154 tKO3 Y (fun _=>.b Y)<|zero_scal tZV3 Y)<|Dq 19 Y (v_extract (ov Y) Y)<|Do 20 Y (w_entryStore (m := at__2) (fk := FK3) (fv := FV3) (k := x.At) (v := i) (ov Y) (ov Y) (ov Y) tMp154 Y)<|Dd<|⟨_, h, ES [some 0, some 1, some 2, some 3] (hhp := .cons Y (ro1 (by exact tZ_156.symm)<|rlc (.dat Y)<|rlc (.own _ Y)<|rlc (.own _ Y)<|rlc (.mref _ Y) rln)<|.cons Y (roM D158)<|.cons Y (roM D3)<|.cons Y (roMap (fk := FK3) (fv := FV3) (m := (mput kqI at__2 x.At i)) tZ_154 (fun _=>.dat Y) fun _=>.ren<|.dat Y) .nil)⟩
        ·
         exact Dq 4 Y (v_loadS (ov Y) Y Y Y tS154 Y)<|Dq 15 Y (v_nilCheckP (ov Y) Y Y)<|Dq 16 Y (v_fieldP (ov Y) Y Y tF156_2)<|Do 17 Y (w_store (ov Y) (ov Y) (cells_scal tS28) Y Y Y (Nat.le_of_ble_eq_true Y) (cell1_all Y) Y)<|Do 18 Y (w_mapEntry (m := at__2) (fk := FK3) (fv := FV3) (k := x.At) (z0 := 0) (ov Y) (ov Y) tMp154 tKO3 Y (fun _=>.b Y)<|zero_scal tZV3 Y)<|Dq 19 Y (v_extract (ov Y) Y)<|Do 20 Y (w_entryStore (m := at__2) (fk := FK3) (fv := FV3) (k := x.At) (v := i) (ov Y) (ov Y) (ov Y) tMp154 Y)<|Dd<|⟨_, h, ES [some 0, some 1, some 2, some 3] (hhp := .cons Y (ro1 (by exact tZ_156.symm)<|rlc (.dat Y)<|rlc (.own _ Y)<|rlc (.own _ Y)<|rlc (.mref _ Y) rln)<|.cons Y (roM D158)<|.cons Y (roM D3)<|.cons Y (roMap (fk := FK3) (fv := FV3) (m := (mput kqI at__2 x.At i)) tZ_154 (fun _=>.dat Y) fun _=>.ren<|.dat Y) .nil)⟩
       ·
        refine Dq 4 Y (v_loadS (ov Y) Y Y Y tS154 Y)<|Dq 15 Y (v_nilCheckP (ov Y) Y Y)<|Dq 16 Y (v_fieldP (ov Y) Y Y tF156_2)<|Dw 6 17 Y (v_loadS (ov Y) Y Y Y tS3<|at_get at2) (w_store (ov Y) (ov Y) (cells_scal tS28) Y Y Y (Nat.le_of_ble_eq_true Y) (cell1_all Y) Y) ?_ ?_
        ·
         exact Do 17 Y (w_store (ov Y) (ov Y) (cells_scal tS28) Y Y Y (Nat.le_of_ble_eq_true Y) (cell1_all Y) Y)<|Do 18 Y (w_mapEntry (m := at__2) (fk := FK3) (fv := FV3) (k := x.At) (z0 := 0) (ov Y) (ov Y) tMp154 tKO3 Y (fun _=>.b Y)<|zero_scal tZV3 Y)<|Dq 19 Y (v_extract (ov Y) Y)<|Do 20 Y (w_entryStore (m := at__2) (fk := FK3) (fv := FV3) (k := x.At) (v := i) (ov Y) (ov Y) (ov Y) tMp154 Y)<|Dd<|⟨_, h, ES [some 0, some 1, some 2, some 3] (hhp := .cons Y (ro1 (by exact tZ_156.symm)<|rlc (.dat Y)<|rlc (.own _ Y)<|rlc (.own _ Y)<|rlc (.mref _ Y) rln)<|.cons Y (roM D158)<|.cons Y (roM D3)<|.cons Y (roMap (fk := FK3) (fv := FV3) (m := (mput kqI at__2 x.At i)) tZ_154 (fun _=>.dat Y) fun _=>.ren<|.dat Y) .nil)⟩
        ·
         exact Dq 6 Y (v_loadS (ov Y) Y Y Y tS3<|at_get at2)<|Do 18 Y (w_mapEntry (m := at__2) (fk := FK3) (fv := FV3) (k := x.At) (z0 := 0) (ov Y) (ov Y) tMp154 tKO3 Y (fun _=>.b Y)<|zero_scal tZV3 Y)<|Dq 19 Y (v_extract (ov Y) Y)<|Do 20 Y (w_entryStore (m := at__2) (fk := FK3) (fv := FV3) (k := x.At) (v := i) (ov Y) (ov Y) (ov Y) tMp154 Y)<|Dd<|⟨_, h, ES [some 0, some 1, some 2, some 3] (hhp := .cons Y (ro1 (by exact tZ_156.symm)<|rlc (.dat Y)<|rlc (.own _ Y)<|rlc (.own _ Y)<|rlc (.mref _ Y) rln)<|.cons Y (roM D158)<|.cons Y (roM D3)<|.cons Y (roMap (fk := FK3) (fv := FV3) (m := (mput kqI at__2 x.At i)) tZ_154 (fun _=>.dat Y) fun _=>.ren<|.dat Y) .nil)⟩
      ·
       refine Dw 3 13 Y (v_fieldP (ov Y) Y Y tF156_3) (w_appendG (ov Y) (slv_sl (ov Y) tZ_3) tL28 Y Y Y (fun _=>cell1_all Y) Y h_l) ?_ ?_
       ·
        refine Dw 4 13 Y (v_loadS (ov Y) Y Y Y tS154 Y) (w_appendG (ov Y) (slv_sl (ov Y) tZ_3) tL28 Y Y Y (fun _=>cell1_all Y) Y h_l) ?_ ?_
        ·
         exact Do 13 Y (w_appendG (ov Y) (slv_sl (ov Y) tZ_3) tL28 Y Y Y (fun _=>cell1_all Y) Y h_l)<|Dq 15 Y (v_nilCheckP (ov Y) Y Y)<|Dq 16 Y (v_fieldP (ov Y) Y Y tF156_2)<|Do 17 Y (w_store (ov Y) (ov Y) (cells_scal tS28) Y Y Y (Nat.le_of_ble_eq_true Y) (cell1_all Y) Y)<|Do 18 Y (w_mapEntry (m := at__2) (fk := FK3) (fv := FV3) (k := x.At) (z0 := 0) (ov Y) (ov Y) tMp154 tKO3 Y (fun _=>.b Y)<|zero_scal tZV3 Y)<|Dq 19 Y (v_extract (ov Y) Y)<|Do 20 Y (w_entryStore (m := at__2) (fk := FK3) (fv := FV3) (k := x.At) (v := i) (ov Y) (ov Y) (ov Y) tMp154 Y)<|Dd<|⟨_, h, ES [some 0, some 1, some 2, some 3] (hhp := .cons Y (ro1 (by exact tZ_156.symm)<|rlc (.dat Y)<|rlc (.own _ Y)<|rlc (.own _ Y)<|rlc (.mref _ Y) rln)<|.cons Y (roM D158)<|.cons Y (roM D3)<|.cons Y (roMap (fk := FK3) (fv := FV3) (m := (mput kqI at__2 x.At i)) tZ_154 (fun _=>.dat Y) fun _=>.ren<|.dat Y) .nil)⟩
        ·
         exact Dq 4 Y (v_loadS (ov Y) Y Y Y tS154 Y)<|Dq 15 Y (v_nilCheckP (ov Y) Y Y)<|Dq 16 Y (v_fieldP (ov Y) Y Y tF156_2)<|Do 17 Y (w_store (ov Y) (ov Y) (cells_scal tS28) Y Y Y (Nat.le_of_ble_eq_true Y) (cell1_all Y) Y)<|Do 18 Y (w_mapEntry (m := at__2) (fk := FK3) (fv := FV3) (k := x.At) (z0 := 0) (ov Y) (ov Y) tMp154 tKO3 Y (fun _=>.b Y)<|zero_scal tZV3 Y)<|Dq 19 Y (v_extract (ov Y) Y)<|Do 20 Y (w_entryStore (m := at__2) (fk := FK3) (fv := FV3) (k := x.At) (v := i) (ov Y) (ov Y) (ov Y) tMp154 Y)<|Dd<|⟨_, h, ES [some 0, some 1, some 2, some 3] (hhp := .cons Y (ro1 (by exact tZ_156.symm)<|rlc (.dat Y)<|rlc (.own _ Y)<|rlc (.own _ Y)<|rlc (.mref _ Y) rln)<|.cons Y (roM D158)<|.cons Y (roM D3)<|.cons Y (roMap (fk := FK3) (fv := FV3) (m := (mput kqI at__2 x.At i)) tZ_154 (fun _=>.dat Y) fun _=>.ren<|.dat Y) .nil)⟩
       ·
        exact Dq 3 Y (v_fieldP (ov Y) Y Y tF156_3)<|Dq 4 Y (v_loadS (ov Y) Y Y Y tS154 Y)<|Dq 15 Y (v_nilCheckP (ov Y) Y Y)<|Dq 16 Y (v_fieldP (ov Y) Y Y tF156_2)<|Do 17 Y (w_store (ov Y) (ov Y) (cells_scal tS28) Y Y Y (Nat.le_of_ble_eq_true Y) (cell1_all Y) Y)<|Do 18 Y (w_mapEntry (m := at__2) (fk := FK3) (fv := FV3) (k := x.At) (z0 := 0) (ov Y) (ov Y) tMp154 tKO3 Y (fun _=>.b Y)<|zero_scal tZV3 Y)<|Dq 19 Y (v_extract (ov Y) Y)<|Do 20 Y (w_entryStore (m := at__2) (fk := FK3) (fv := FV3) (k := x.At) (v := i) (ov Y) (ov Y) (ov Y) tMp154 Y)<|Dd<|⟨_, h, ES [some 0, some 1, some 2, some 3] (hhp := .cons Y (ro1 (by exact tZ_156.symm)<|rlc (.dat Y)<|rlc (.own _ Y)<|rlc (.own _ Y)<|rlc (.mref _ Y) rln)<|.cons Y (roM D158)<|.cons Y (roM D3)<|.cons Y (roMap (fk := FK3) (fv := FV3) (m := (mput kqI at__2 x.At i)) tZ_154 (fun _=>.dat Y) fun _=>.ren<|.dat Y) .nil)⟩
      ·
       refine Dq 3 Y (v_fieldP (ov Y) Y Y tF156_3)<|Dq 4 Y (v_loadS (ov Y) Y Y Y tS154 Y)<|Dq 15 Y (v_nilCheckP (ov Y) Y Y)<|Dq 16 Y (v_fieldP (ov Y) Y Y tF156_2)<|Dw 6 17 Y (v_loadS (ov Y) Y Y Y tS3<|at_get at2) (w_store (ov Y) (ov Y) (cells_scal tS28) Y Y Y (Nat.le_of_ble_eq_true Y) (cell1_all Y) Y) ?_ ?_
       ·
        exact Do 17 Y (w_store (ov Y) (ov Y) (cells_scal tS28) Y Y Y (Nat.le_of_ble_eq_true Y) (cell1_all Y) Y)<|Do 18 Y (w_mapEntry (m := at__2) (fk := FK3) (fv := FV3) (k := x.At) (z0 := 0) (ov Y) (ov Y) tMp154 tKO3 Y (fun _=>.b Y)<|zero_scal tZV3 Y)<|Dq 19 Y (v_extract (ov Y) Y)<|Do 20 Y (w_entryStore (m := at__2) (fk := FK3) (fv := FV3) (k := x.At) (v := i) (ov Y) (ov Y) (ov Y) tMp154 Y)<|Dd<|⟨_, h, ES [some 0, some 1, some 2, some 3] (hhp := .cons Y (ro1 (by exact tZ_156.symm)<|rlc (.dat Y)<|rlc (.own _ Y)<|rlc (.own _ Y)<|rlc (.mref _ Y) rln)<|.cons Y (roM D158)<|.cons Y (roM D3)<|.cons Y (roMap (fk := FK3) (fv := FV3) (m := (mput kqI at__2 x.At i)) tZ_154 (fun _=>.dat Y) fun _=>.ren<|.dat Y) .nil)⟩
       ·
        exact Dq 6 Y (v_loadS (ov Y) Y Y Y tS3<|at_get at2)<|Do 18 Y (w_mapEntry (m := at__2) (fk := FK3) (fv := FV3) (k := x.At) (z0 := 0) (ov Y) (ov Y) tMp154 tKO3 Y (fun _=>.b Y)<|zero_scal tZV3 Y)<|Dq 19 Y (v_extract (ov Y) Y)<|Do 20 Y (w_entryStore (m := at__2) (fk := FK3) (fv := FV3) (k := x.At) (v := i) (ov Y) (ov Y) (ov Y) tMp154 Y)<|Dd<|⟨_, h, ES [some 0, some 1, some 2, some 3] (hhp := .cons Y (ro1 (by exact tZ_156.symm)<|rlc (.dat Y)<|rlc (.own _ Y)<|rlc (.own _ Y)<|rlc (.mref _ Y) rln)<|.cons Y (roM D158)<|.cons Y (roM D3)<|.cons Y (roMap (fk := FK3) (fv := FV3) (m := (mput kqI at__2 x.At i)) tZ_154 (fun _=>.dat Y) fun _=>.ren<|.dat Y) .nil)⟩
     ·
      refine Dw 2 13 Y (v_nilCheckP (ov Y) Y Y) (w_appendG (ov Y) (slv_sl (ov Y) tZ_3) tL28 Y Y Y (fun _=>cell1_all Y) Y h_l) ?_ ?_
      ·
       refine Dw 3 13 Y (v_fieldP (ov Y) Y Y tF156_3) (w_appendG (ov Y) (slv_sl (ov Y) tZ_3) tL28 Y Y Y (fun _=>cell1_all Y) Y h_l) ?_ ?_
       ·
        refine Dw 4 13 Y (v_loadS (ov Y) Y Y Y tS154 Y) (w_appendG (ov Y) (slv_sl (ov Y) tZ_3) tL28 Y Y Y (fun _=>cell1_all Y) Y h_l) ?_ ?_
        ·
         exact Do 13 Y (w_appendG (ov Y) (slv_sl (ov Y) tZ_3) tL28 Y Y Y (fun _=>cell1_all Y) Y h_l)<|Dq 15 Y (v_nilCheckP (ov Y) Y Y)<|Dq 16 Y (v_fieldP (ov Y) Y Y tF156_2)<|Do 17 Y (w_store (ov Y) (ov Y) (cells_scal tS28) Y Y Y (Nat.le_of_ble_eq_true Y) (cell1_all Y) Y)<|Do 18 Y (w_mapEntry (m := at__2) (fk := FK3) (fv := FV3) (k := x.At) (z0 := 0) (ov Y) (ov Y) tMp154 tKO3 Y (fun _=>.b Y)<|zero_scal tZV3 Y)<|Dq 19 Y (v_extract (ov Y) Y)<|Do 20 Y (w_entryStore (m := at__2) (fk := FK3) (fv := FV3) (k := x.At) (v := i) (ov Y) (ov Y) (ov Y) tMp154 Y)<|Dd<|⟨_, h, ES [some 0, some 1, some 2, some 3] (hhp := .cons Y (ro1 (by exact tZ_156.symm)<|rlc (.dat Y)<|rlc (.own _ Y)<|rlc (.own _ Y)<|rlc (.mref _ Y) rln)<|.cons Y (roM D158)<|.cons Y (roM D3)<|.cons Y (roMap (fk := FK3) (fv := FV3) (m := (mput kqI at__2 x.At i)) tZ_154 (fun _=>.dat Y) fun _=>.ren<|.dat Y) .nil)⟩
        ·
         exact Dq 4 Y (v_loadS (ov Y) Y Y Y tS154 Y)<|Dq 15 Y (v_nilCheckP (ov Y) Y Y)<|Dq 16 Y (v_fieldP (ov Y) Y Y tF156_2)<|Do 17 Y (w_store (ov Y) (ov Y) (cells_scal tS28) Y Y Y (Nat.le_of_ble_eq_true Y) (cell1_all Y) Y)<|Do 18 Y (w_mapEntry (m := at__2) (fk := FK3) (fv := FV3) (k := x.At) (z0 := 0) (ov Y) (ov Y) tMp154 tKO3 Y (fun _=>.b Y)<|zero_scal tZV3 Y)<|Dq 19 Y (v_extract (ov Y) Y)<|Do 20 Y (w_entryStore (m := at__2) (fk := FK3) (fv := FV3) (k := x.At) (v := i) (ov Y) (ov Y) (ov Y) tMp154 Y)<|Dd<|⟨_, h, ES [some 0, some 1, some 2, some 3] (hhp := .cons Y (ro1 (by exact tZ_156.symm)<|rlc (.dat Y)<|rlc (.own _ Y)<|rlc (.own _ Y)<|rlc (.mref _ Y) rln)<|.cons Y (roM D158)<|.cons Y (roM D3)<|.cons Y (roMap (fk := FK3) (fv := FV3) (m := (mput kqI at__2 x.At i)) tZ_154 (fun _=>.dat Y) fun _=>.ren<|.dat Y) .nil)⟩
       ·
        exact Dq 3 Y (v_fieldP (ov Y) Y Y tF156_3)<|Dq 4 Y (v_loadS (ov Y) Y Y Y tS154 Y)<|Dq 15 Y (v_nilCheckP (ov Y) Y Y)<|Dq 16 Y (v_fieldP (ov Y) Y Y tF156_2)<|Do 17 Y (w_store (ov Y) (ov Y) (cells_scal tS28) Y Y Y (Nat.le_of_ble_eq_true Y) (cell1_all Y) Y)<|Do 18 Y (w_mapEntry (m := at__2) (fk := FK3) (fv := FV3) (k := x.At) (z0 := 0) (ov Y) (ov Y) tMp154 tKO3 Y (fun _=>.b Y)<|zero_scal tZV3 Y)<|Dq 19 Y (v_extract (ov Y) Y)<|Do 20 Y (w_entryStore (m := at__2) (fk := FK3) (fv := FV3) (k := x.At) (v := i) (ov Y) (ov Y) (ov Y) tMp154 Y)<|Dd<|⟨_, h, ES [some 0, some 1, some 2, some 3] (hhp := .cons Y (ro1 (by exact tZ_156.symm)<|rlc (.dat Y)<|rlc (.own _ Y)<|rlc (.own _ Y)<|rlc (.mref _ Y) rln)<|.cons Y (roM D158)<|.cons Y (roM D3)<|.cons Y (roMap (fk := FK3) (fv := FV3) (m := (mput kqI at__2 x.At i)) tZ_154 (fun _=>.dat Y) fun _=>.ren<|.dat Y) .nil)⟩
      ·
       exact Dq 2 Y (v_nilCheckP (ov Y) Y Y)<|Dq 3 Y (v_fieldP (ov Y) Y Y tF156_3)<|Dq 4 Y (v_loadS (ov Y) Y Y Y tS154 Y)<|Dq 15 Y (v_nilCheckP (ov Y) Y Y)<|Dq 16 Y (v_fieldP (ov Y) Y Y tF156_2)<|Do 17 Y (w_store (ov Y) (ov Y) (cells_scal tS28) Y Y Y (Nat.le_of_ble_eq_true Y) (cell1_all Y) Y)<|Do 18 Y (w_mapEntry (m := at__2) (fk := FK3) (fv := FV3) (k := x.At) (z0 := 0) (ov Y) (ov Y) tMp154 tKO3 Y (fun _=>.b Y)<|zero_scal tZV3 Y)<|Dq 19 Y (v_extract (ov Y) Y)<|Do 20 Y (w_entryStore (m := at__2) (fk := FK3) (fv := FV3) (k := x.At) (v := i) (ov Y) (ov Y) (ov Y) tMp154 Y)<|Dd<|⟨_, h, ES [some 0, some 1, some 2, some 3] (hhp := .cons Y (ro1 (by exact tZ_156.symm)<|rlc (.dat Y)<|rlc (.own _ Y)<|rlc (.own _ Y)<|rlc (.mref _ Y) rln)<|.cons Y (roM D158)<|.cons Y (roM D3)<|.cons Y (roMap (fk := FK3) (fv := FV3) (m := (mput kqI at__2 x.At i)) tZ_154 (fun _=>.dat Y) fun _=>.ren<|.dat Y) .nil)⟩
     ·
      refine Dq 2 Y (v_nilCheckP (ov Y) Y Y)<|Dq 3 Y (v_fieldP (ov Y) Y Y tF156_3)<|Dq 4 Y (v_loadS (ov Y) Y Y Y tS154 Y)<|Dq 15 Y (v_nilCheckP (ov Y) Y Y)<|Dq 16 Y (v_fieldP (ov Y) Y Y tF156_2)<|Dw 6 17 Y (v_loadS (ov Y) Y Y Y tS3<|at_get at2) (w_store (ov Y) (ov Y) (cells_scal tS28) Y Y Y (Nat.le_of_ble_eq_true Y) (cell1_all Y) Y) ?_ ?_
      ·
       exact Do 17 Y (w_store (ov Y) (ov Y) (cells_scal tS28) Y Y Y (Nat.le_of_ble_eq_true Y) (cell1_all Y) Y)<|Do 18 Y (w_mapEntry (m := at__2) (fk := FK3) (fv := FV3) (k := x.At) (z0 := 0) (ov Y) (ov Y) tMp154 tKO3 Y (fun _=>.b Y)<|zero_scal tZV3 Y)<|Dq 19 Y (v_extract (ov Y) Y)<|Do 20 Y (w_entryStore (m := at__2) (fk := FK3) (fv := FV3) (k := x.At) (v := i) (ov Y) (ov Y) (ov Y) tMp154 Y)<|Dd<|⟨_, h, ES [some 0, some 1, some 2, some 3] (hhp := .cons Y (ro1 (by exact tZ_156.symm)<|rlc (.dat Y)<|rlc (.own _ Y)<|rlc (.own _ Y)<|rlc (.mref _ Y) rln)<|.cons Y (roM D158)<|.cons Y (roM D3)<|.cons Y (roMap (fk := FK3) (fv := FV3) (m := (mput kqI at__2 x.At i)) tZ_154 (fun _=>.dat Y) fun _=>.ren<|.dat Y) .nil)⟩
      ·
       exact Dq 6 Y (v_loadS (ov Y) Y Y Y tS3<|at_get at2)<|Do 18 Y (w_mapEntry (m := at__2) (fk := FK3) (fv := FV3) (k := x.At) (z0 := 0) (ov Y) (ov Y) tMp154 tKO3 Y (fun _=>.b Y)<|zero_scal tZV3 Y)<|Dq 19 Y (v_extract (ov Y) Y)<|Do 20 Y (w_entryStore (m := at__2) (fk := FK3) (fv := FV3) (k := x.At) (v := i) (ov Y) (ov Y) (ov Y) tMp154 Y)<|Dd<|⟨_, h, ES [some 0, some 1, some 2, some 3] (hhp := .cons Y (ro1 (by exact tZ_156.symm)<|rlc (.dat Y)<|rlc (.own _ Y)<|rlc (.own _ Y)<|rlc (.mref _ Y) rln)<|.cons Y (roM D158)<|.cons Y (roM D3)<|.cons Y (roMap (fk := FK3) (fv := FV3) (m := (mput kqI at__2 x.At i)) tZ_154 (fun _=>.dat Y) fun _=>.ren<|.dat Y) .nil)⟩
    ·
     refine Dq 2 Y (v_nilCheckP (ov Y) Y Y)<|Dq 3 Y (v_fieldP (ov Y) Y Y tF156_3)<|Dq 4 Y (v_loadS (ov Y) Y Y Y tS154 Y)<|Dq 15 Y (v_nilCheckP (ov Y) Y Y)<|Dq 16 Y (v_fieldP (ov Y) Y Y tF156_2)<|Dw 5 17 Y (v_fieldP (ov Y) Y Y tF158_0) (w_store (ov Y) (ov Y) (cells_scal tS28) Y Y Y (Nat.le_of_ble_eq_true Y) (cell1_all Y) Y) ?_ ?_
     ·
      refine Dw 6 17 Y (v_loadS (ov Y) Y Y Y tS3<|at_get at2) (w_store (ov Y) (ov Y) (cells_scal tS28) Y Y Y (Nat.le_of_ble_eq_true Y) (cell1_all Y) Y) ?_ ?_
      ·
       exact Do 17 Y (w_store (ov Y) (ov Y) (cells_scal tS28) Y Y Y (Nat.le_of_ble_eq_true Y) (cell1_all Y) Y)<|Do 18 Y (w_mapEntry (m := at__2) (fk := FK3) (fv := FV3) (k := x.At) (z0 := 0) (ov Y) (ov Y) tMp154 tKO3 Y (fun _=>.b Y)<|zero_scal tZV3 Y)<|Dq 19 Y (v_extract (ov Y) Y)<|Do 20 Y (w_entryStore (m := at__2) (fk := FK3) (fv := FV3) (k := x.At) (v := i) (ov Y) (ov Y) (ov Y) tMp154 Y)<|Dd<|⟨_, h, ES [some 0, some 1, some 2, some 3] (hhp := .cons Y (ro1 (by exact tZ_156.symm)<|rlc (.dat Y)<|rlc (.own _ Y)<|rlc (.own _ Y)<|rlc (.mref _ Y) rln)<|.cons Y (roM D158)<|.cons Y (roM D3)<|.cons Y (roMap (fk := FK3) (fv := FV3) (m := (mput kqI at__2 x.At i)) tZ_154 (fun _=>.dat Y) fun _=>.ren<|.dat Y) .nil)⟩
      ·
       exact Dq 6 Y (v_loadS (ov Y) Y Y Y tS3<|at_get at2)<|Do 18 Y (w_mapEntry (m := at__2) (fk := FK3) (fv := FV3) (k := x.At) (z0 := 0) (ov Y) (ov Y) tMp154 tKO3 Y (fun _=>.b Y)<|zero_scal tZV3 Y)<|Dq 19 Y (v_extract (ov Y) Y)<|Do 20 Y (w_entryStore (m := at__2) (fk := FK3) (fv := FV3) (k := x.At) (v := i) (ov Y) (ov Y) (ov Y) tMp154 Y)<|Dd<|⟨_, h, ES [some 0, some 1, some 2, some 3] (hhp := .cons Y (ro1 (by exact tZ_156.symm)<|rlc (.dat Y)<|rlc (.own _ Y)<|rlc (.own _ Y)<|rlc (.mref _ Y) rln)<|.cons Y (roM D158)<|.cons Y (roM D3)<|.cons Y (roMap (fk := FK3) (fv := FV3) (m := (mput kqI at__2 x.At i)) tZ_154 (fun _=>.dat Y) fun _=>.ren<|.dat Y) .nil)⟩
     ·
      exact Dq 5 Y (v_fieldP (ov Y) Y Y tF158_0)<|Dq 6 Y (v_loadS (ov Y) Y Y Y tS3<|at_get at2)<|Do 18 Y (w_mapEntry (m := at__2) (fk := FK3) (fv := FV3) (k := x.At) (z0 := 0) (ov Y) (ov Y) tMp154 tKO3 Y (fun _=>.b Y)<|zero_scal tZV3 Y)<|Dq 19 Y (v_extract (ov Y) Y)<|Do 20 Y (w_entryStore (m := at__2) (fk := FK3) (fv := FV3) (k := x.At) (v := i) (ov Y) (ov Y) (ov Y) tMp154 Y)<|Dd<|⟨_, h, ES [some 0, some 1, some 2, some 3] (hhp := .cons Y (ro1 (by exact tZ_156.symm)<|rlc (.dat Y)<|rlc (.own _ Y)<|rlc (.own _ Y)<|rlc (.mref _ Y) rln)<|.cons Y (roM D158)<|.cons Y (roM D3)<|.cons Y (roMap (fk := FK3) (fv := FV3) (m := (mput kqI at__2 x.At i)) tZ_154 (fun _=>.dat Y) fun _=>.ren<|.dat Y) .nil)⟩
   ·
    exact T_reg<|R2 vadd Y<|Rm Y<|R_nil<|⟨_, h, ES [some 0, some 1, some 2, some 3] (hhp := .cons Y (ro1 (by exact tZ_156.symm)<|rlc (.dat Y)<|rlc (.own _ Y)<|rlc (.own _ Y)<|rlc (.mref _ Y) rln)<|.cons Y (roM D158)<|.cons Y (roM D3)<|.cons Y (roMap (fk := FK3) (fv := FV3) (m := at__3) tZ_154 (fun _=>.dat Y) fun _=>.ren<|.dat Y) .nil)⟩
  ·
   refine T_exit<|?_
   replace h := lx h ▸ ho1
   exact ⟨_, h, ES [some 0, some 1, some 2, some 3] (hhp := .cons Y (ro1 (by exact tZ_156.symm)<|rlc (.dat Y)<|rlc (.own _ Y)<|rlc (.own _ Y)<|rlc (.mref _ Y) rln)<|.cons Y (roM D158)<|.cons Y (roM D3)<|.cons Y (roMap (fk := FK3) (fv := FV3) (m := at__2) tZ_154 (fun _=>.dat Y) fun _=>.ren<|.dat Y) .nil)⟩
 ·
  refine Tr<|Rm Y<|Ra Y<|R_nil<|?_
  obtain rfl := rt h
  exact T_ent (Ent.sel [some 0, none, none, some 3] (sr 2 Y (.ptr (r' := 0) _ _ _ Y)<|sr 3 Y (.ptr (r' := 0) _ _ _ Y)<|sr 50 Y (.ptr (r' := 0) _ _ _ Y) sn) (.cons Y (ro1 (by exact tZ_156.symm)<|rlc (.dat Y)<|rlc (frzM Y Y Y D158)<|rlc (frzM Y Y Y D3)<|rlc (.mref (r' := 3) _ Y) rln)<|.row 158<|.row 3<|.cons Y (roMap (fk := FK3) (fv := FV3) (m := at__) tZ_154 (fun _=>.dat Y) fun _=>.ren<|.dat Y) .nil) Y Y)<|T_ent (Ent.sel [some 0, some 1, some 2, some 3] (sr 2 Y (.ptr (r' := 0) _ _ _ Y)<|sr 3 Y (.ptr (r' := 0) _ _ _ Y)<|sr 50 Y (.ptr (r' := 0) _ _ _ Y) sn) (.cons Y (ro1 (by exact tZ_156.symm)<|rlc (.dat Y)<|rlc (.dat Y)<|rlc (.dat Y)<|rlc (.out _) rln)<|.cons Y roE<|.cons Y roE<|.cons Y (roMap (fk := FK3) (fv := FV3) (m := at__) tZ_154 (fun _=>.dat Y) fun _=>.ren<|.dat Y) .nil) Y Y)<|T_ent (Ent.sel [none, some 1, some 2, some 3] (sr 2 Y (.frp ⟨Y, ⟨_, Y⟩, Y, Y⟩)<|sr 3 Y (.frp ⟨Y, ⟨_, Y⟩, Y, Y⟩)<|sr 50 Y (.frp ⟨Y, ⟨_, Y⟩, Y, Y⟩) sn) (.row 156<|.cons Y roE<|.cons Y roE<|.cons Y (roMap (fk := FK3) (fv := FV3) (m := at__) tZ_154 (fun _=>.dat Y) fun _=>.ren<|.dat Y) .nil) Y Y)<|T_ret (retq Y (.one<|rb Y))
end Go.Proofs.YthdiljjohpamnaaGreatDoorRR
