/- A text of the proof: a verified executor of the program form, or the contracts of the functions that the law reaches. -/
import Derived.Test.YthdiljjohpamnaaGreatDoorRRVS
import Derived.Test.YthdiljjohpamnaaGreatDoorRRPA
import Derived.Test.YthdiljjohpamnaaGreatDoorRRShT
import Derived.Test.YthdiljjohpamnaaGreatDoorRRProg
import Derived.Test.YthdiljjohpamnaaGreatDoorRRLayZ
set_option linter.all false
namespace Go.Proofs.YthdiljjohpamnaaGreatDoorRR
open Go Go.Vx
set_option maxRecDepth 10000
set_option maxHeartbeats 1000000
set_option linter.unusedVariables false
theorem tZ_5 : Tryz.prog.cellsOf 5 = 1 := by kernel_rfl
instance : SzD Tryz.prog 5 1 := ⟨tZ_5⟩
theorem tZ_68 : Tryz.prog.cellsOf 68 = 2 := by kernel_rfl
instance : SzD Tryz.prog 68 2 := ⟨tZ_68⟩
theorem ZfG : tAgg Tryz.prog 68 2 = true := by kernel_rfl
theorem Zfu : tFld Tryz.prog 68 0 0 = true := by kernel_rfl
theorem Zh3 : tScal Tryz.prog 66 = true := by kernel_rfl
theorem ZaC : tSl Tryz.prog 66 5 1 1 = true := by kernel_rfl
theorem Zlo : tFld Tryz.prog 68 1 1 = true := by kernel_rfl
theorem tS4 : tScal Tryz.prog 4 = true := by kernel_rfl
theorem tS5 : tScal Tryz.prog 5 = true := by kernel_rfl
theorem tZ5 : Zae Tryz.prog 5 = some [.int .u8 0] := by kernel_rfl
theorem tZ_158 : Tryz.prog.cellsOf 158 = 65 := by kernel_rfl
instance : SzD Tryz.prog 158 65 := ⟨tZ_158⟩
theorem tZ_153 : Tryz.prog.cellsOf 153 = 1 := by kernel_rfl
instance : SzD Tryz.prog 153 1 := ⟨tZ_153⟩
theorem tI5 : tInt Tryz.prog 5 .u8 = true := by kernel_rfl
theorem JV : tInt Tryz.prog 47 .u16 = true := by kernel_rfl
theorem Zpu : tArr Tryz.prog 187 4 47 1 = true := by kernel_rfl
theorem QR : tScal Tryz.prog 47 = true := by kernel_rfl
theorem tI3 : tInt Tryz.prog 3 .i64 = true := by kernel_rfl
theorem ZqE : tArr Tryz.prog 261 192 5 1 = true := by kernel_rfl
theorem ZrK : tAgg Tryz.prog 261 192 = true := by kernel_rfl
theorem tZ_261 : Tryz.prog.cellsOf 261 = 192 := by kernel_rfl
instance : SzD Tryz.prog 261 192 := ⟨tZ_261⟩
theorem ZcW : Zae Tryz.prog 49 = some [.int .u16 0, .int .u16 0, .int .u16 0, .int .u16 0, .int .u16 0, .int .u16 0, .int .u16 0, .int .u16 0, .int .u16 0, .int .u16 0, .int .u16 0, .int .u16 0, .int .u16 0, .int .u16 0, .int .u16 0, .int .u16 0, .int .u16 0, .int .u16 0, .int .u16 0, .int .u16 0, .int .u16 0, .int .u16 0, .int .u16 0, .int .u16 0, .int .u16 0, .int .u16 0, .int .u16 0, .int .u16 0, .int .u16 0, .int .u16 0, .int .u16 0, .int .u16 0, .int .u16 0, .int .u16 0, .int .u16 0, .int .u16 0, .int .u16 0, .int .u16 0, .int .u16 0, .int .u16 0, .int .u16 0, .int .u16 0, .int .u16 0, .int .u16 0, .int .u16 0, .int .u16 0, .int .u16 0, .int .u16 0, .int .u16 0, .int .u16 0, .int .u16 0, .int .u16 0, .int .u16 0, .int .u16 0, .int .u16 0, .int .u16 0, .int .u16 0, .int .u16 0, .int .u16 0, .int .u16 0, .int .u16 0, .int .u16 0, .int .u16 0, .int .u16 0] := by kernel_rfl
theorem tZ_49 : Tryz.prog.cellsOf 49 = 64 := by kernel_rfl
instance : SzD Tryz.prog 49 64 := ⟨tZ_49⟩
theorem QL : tArr Tryz.prog 49 64 47 1 = true := by kernel_rfl
theorem Z3 : tAgg Tryz.prog 49 64 = true := by kernel_rfl
theorem ZqB : tStr Tryz.prog 9 = true := by kernel_rfl
theorem tB4 : (match Tryz.prog.underlying 4 with | some .bool => true | _ => false) = true := by kernel_rfl
theorem tZ_66 : Tryz.prog.cellsOf 66 = 1 := by kernel_rfl
instance : SzD Tryz.prog 66 1 := ⟨tZ_66⟩
theorem ZrS : Zae Tryz.prog 153 = some [.slice none 0 0] := by kernel_rfl
theorem Zd0 : tScal Tryz.prog 153 = true := by kernel_rfl
theorem Zpa : ZdG Tryz.prog 158 = some [(0, 1), (1, 64)] := by kernel_rfl
theorem Zpm : ZgD Tryz.prog 158 = true := by kernel_rfl
theorem Zgg : Zae Tryz.prog 158 = some ([.int .i64 0] ++ (List.flatten (List.replicate 64 [.int .u16 0]))) := by kernel_rfl
theorem QI : tSl Tryz.prog 153 158 65 136 = true := by kernel_rfl
theorem ZbL : tAgg Tryz.prog 158 65 = true := by kernel_rfl
theorem Qc : tFld Tryz.prog 158 0 0 = true := by kernel_rfl
theorem tS3 : tScal Tryz.prog 3 = true := by kernel_rfl
theorem ZD : tMap Tryz.prog 154 3 3 = true := by kernel_rfl
theorem Zrh : ZdG Tryz.prog 156 = some [(0, 1), (1, 1), (2, 1), (3, 1)] := by kernel_rfl
theorem ZqV : ZgD Tryz.prog 156 = true := by kernel_rfl
theorem ZrQ : Zae Tryz.prog 156 = some [.slice none 0 0, .slice none 0 0, .slice none 0 0, .map none] := by kernel_rfl
theorem Zrw : tAgg Tryz.prog 156 4 = true := by kernel_rfl
theorem ZbF : tFld Tryz.prog 156 1 1 = true := by kernel_rfl
theorem X4 : Zmq Tryz.prog 3 = some (.int .i64 0) := by kernel_rfl
theorem Zfx : tFld Tryz.prog 158 1 1 = true := by kernel_rfl
theorem ZaN : tFld Tryz.prog 156 3 3 = true := by kernel_rfl
theorem JZ : tScal Tryz.prog 154 = true := by kernel_rfl
theorem Ql : tFld Tryz.prog 156 2 2 = true := by kernel_rfl
theorem XN : tScal Tryz.prog 28 = true := by kernel_rfl
theorem Qq : tSl Tryz.prog 28 3 1 8 = true := by kernel_rfl
theorem tZ_3 : Tryz.prog.cellsOf 3 = 1 := by kernel_rfl
instance : SzD Tryz.prog 3 1 := ⟨tZ_3⟩
theorem tZ_156 : Tryz.prog.cellsOf 156 = 4 := by kernel_rfl
instance : SzD Tryz.prog 156 4 := ⟨tZ_156⟩
theorem tZ_154 : Tryz.prog.cellsOf 154 = 1 := by kernel_rfl
instance : SzD Tryz.prog 154 1 := ⟨tZ_154⟩
theorem Zrr : Zae Tryz.prog 72 = some [.int .i64 0, .int .i64 0, .int .i64 0, .int .i64 0, .int .i64 0, .int .i64 0, .int .i64 0, .int .i64 0, .int .i64 0, .int .i64 0, .int .i64 0, .int .i64 0, .int .i64 0, .int .i64 0, .int .i64 0, .int .i64 0, .int .i64 0, .int .i64 0, .int .i64 0, .int .i64 0, .int .i64 0, .int .i64 0, .int .i64 0, .int .i64 0, .int .i64 0, .int .i64 0, .int .i64 0, .int .i64 0, .int .i64 0, .int .i64 0, .int .i64 0, .int .i64 0, .int .i64 0, .int .i64 0, .int .i64 0, .int .i64 0, .int .i64 0, .int .i64 0, .int .i64 0, .int .i64 0, .int .i64 0, .int .i64 0, .int .i64 0, .int .i64 0, .int .i64 0, .int .i64 0, .int .i64 0, .int .i64 0, .int .i64 0, .int .i64 0, .int .i64 0, .int .i64 0, .int .i64 0, .int .i64 0, .int .i64 0, .int .i64 0, .int .i64 0, .int .i64 0, .int .i64 0, .int .i64 0, .int .i64 0, .int .i64 0, .int .i64 0, .int .i64 0] := by kernel_rfl
theorem tZ_72 : Tryz.prog.cellsOf 72 = 64 := by kernel_rfl
instance : SzD Tryz.prog 72 64 := ⟨tZ_72⟩
theorem ZaO : tArr Tryz.prog 72 64 3 1 = true := by kernel_rfl
theorem Zhv : tAgg Tryz.prog 72 64 = true := by kernel_rfl
theorem Zhi : ZdG Tryz.prog 74 = some [(0, 1), (1, 64), (65, 64), (129, 1), (130, 1), (131, 1)] := by kernel_rfl
theorem Zhg : ZgD Tryz.prog 74 = true := by kernel_rfl
theorem ZbS : Zae Tryz.prog 74 = some ([.int .i64 0] ++ (List.flatten (List.replicate 64 [.int .u16 0])) ++ (List.flatten (List.replicate 64 [.int .i64 0])) ++ [.bool false, .int .i64 0, .bool false]) := by kernel_rfl
theorem Qd : tSl Tryz.prog 58 74 132 672 = true := by kernel_rfl
theorem tZ_74 : Tryz.prog.cellsOf 74 = 132 := by kernel_rfl
instance : SzD Tryz.prog 74 132 := ⟨tZ_74⟩
theorem Znm : tFld Tryz.prog 156 0 0 = true := by kernel_rfl
theorem Zqt : tInt Tryz.prog 126 .u64 = true := by kernel_rfl
theorem Zkj : Zae Tryz.prog 171 = some [.bool false, .bool false, .bool false, .bool false, .bool false, .bool false, .bool false, .bool false, .bool false, .bool false, .bool false, .bool false, .bool false, .bool false, .bool false, .bool false, .bool false, .bool false, .bool false, .bool false, .bool false, .bool false, .bool false, .bool false, .bool false, .bool false, .bool false, .bool false, .bool false, .bool false, .bool false, .bool false, .bool false, .bool false, .bool false, .bool false, .bool false, .bool false, .bool false, .bool false, .bool false, .bool false, .bool false, .bool false, .bool false, .bool false, .bool false, .bool false, .bool false, .bool false, .bool false, .bool false, .bool false, .bool false, .bool false, .bool false, .bool false, .bool false, .bool false, .bool false, .bool false, .bool false, .bool false, .bool false] := by kernel_rfl
theorem tZ_171 : Tryz.prog.cellsOf 171 = 64 := by kernel_rfl
instance : SzD Tryz.prog 171 64 := ⟨tZ_171⟩
theorem ZfI : tArr Tryz.prog 171 64 4 1 = true := by kernel_rfl
theorem Zcs : tAgg Tryz.prog 171 64 = true := by kernel_rfl
theorem Qh : tAgg Tryz.prog 74 132 = true := by kernel_rfl
theorem Xb : tFld Tryz.prog 74 1 1 = true := by kernel_rfl
theorem QJ : tFld Tryz.prog 74 2 65 = true := by kernel_rfl
theorem Qf : tMap Tryz.prog 165 3 58 = true := by kernel_rfl
theorem Za4 : Zmq Tryz.prog 58 = some (.slice none 0 0) := by kernel_rfl
theorem Qg : tFld Tryz.prog 74 0 0 = true := by kernel_rfl
theorem tZ_165 : Tryz.prog.cellsOf 165 = 1 := by kernel_rfl
instance : SzD Tryz.prog 165 1 := ⟨tZ_165⟩
theorem Zlz : (match Tryz.prog.underlying 58 with | some (.slice _) => true | _ => false) = true := by kernel_rfl
theorem ZbM : tFld Tryz.prog 74 4 130 = true := by kernel_rfl
theorem Zgp : tFld Tryz.prog 74 5 131 = true := by kernel_rfl
theorem Zcm : tFld Tryz.prog 74 3 129 = true := by kernel_rfl
theorem Zkb : ZdG Tryz.prog 247 = some [(0, 1), (1, 1)] := by kernel_rfl
theorem Zkl : ZgD Tryz.prog 247 = true := by kernel_rfl
theorem Zmt : Zae Tryz.prog 247 = some [.int .i64 0, .int .i64 0] := by kernel_rfl
theorem ZfQ : tSl Tryz.prog 219 247 2 16 = true := by kernel_rfl
theorem tZ_247 : Tryz.prog.cellsOf 247 = 2 := by kernel_rfl
instance : SzD Tryz.prog 247 2 := ⟨tZ_247⟩
theorem Zqr : tArr Tryz.prog 232 4 3 1 = true := by kernel_rfl
theorem ZrZ : Zae Tryz.prog 232 = some [.int .i64 0, .int .i64 0, .int .i64 0, .int .i64 0] := by kernel_rfl
theorem tZ3 : Zae Tryz.prog 3 = some [.int .i64 0] := by kernel_rfl
theorem Zr3 : ZdG Tryz.prog 68 = some [(0, 1), (1, 1)] := by kernel_rfl
theorem ZrW : ZgD Tryz.prog 68 = true := by kernel_rfl
theorem ZpF : Zae Tryz.prog 68 = some [.slice none 0 0, .bool false] := by kernel_rfl
theorem Zf9 : tSl Tryz.prog 76 68 2 32 = true := by kernel_rfl
theorem ZqH : (match Tryz.prog.underlying 76 with | some (.slice _) => true | _ => false) = true := by kernel_rfl
def gl0 : Gl := ⟨1, [(0, (gv_frame_syncs.toList.map fun z => Value.int .u16 z).toArray)]⟩
def R5 (x : Int) : List AV := [.int .u8 x]
theorem D5 (x : Int) : (R5 x).length = Tryz.prog.cellsOf 5 ∧ (R5 x).all datB = true := ⟨tZ_5.symm, rfl⟩
instance : RowD Tryz.prog 5 R5 := ⟨D5⟩
def C47 (x : Int) : AV := .int .u16 x
def R158 (x : api_Found) : List AV := (.int .i64 x.At) :: ((List.map C47 x.Frame.toList) ++ ([]))
theorem ln0 {a0 : AV} {v1 : Vector Int 64} : ((a0) :: ((List.map C47 v1.toList) ++ ([]))).length = 65 := lnC (n := 64) (lnA (m := 64) (n := 0) arL (lnN))
theorem al1 {x0 : Int} {v1 : Vector Int 64} : ((.int .i64 x0) :: ((List.map C47 v1.toList) ++ ([]))).all datB = true := alC rfl (alA (arD fun _ => rfl) (alN))
theorem D158 (x : api_Found) : (R158 x).length = Tryz.prog.cellsOf 158 ∧ (R158 x).all datB = true := ⟨Eq.trans (b := 65) ln0 tZ_158.symm, al1⟩
instance : RowD Tryz.prog 158 R158 := ⟨D158⟩
def C5 (x : Int) : AV := .int .u8 x
theorem at2 {a0 : AV} {v1 : Vector Int 64} : At ((a0) :: ((List.map C47 v1.toList) ++ ([]))) 0 1 ([a0]) := at0 (hdc (n := 0) hd0)
theorem pt3 {a0 : AV} {v1 : Vector Int 64} {b0 : AV} : Put ((a0) :: ((List.map C47 v1.toList) ++ ([]))) 0 ([b0]) ((b0) :: ((List.map C47 v1.toList) ++ ([]))) := Zpp
theorem at4 {a0 : AV} {v1 : Vector Int 64} : At ((a0) :: ((List.map C47 v1.toList) ++ ([]))) 1 64 ((List.map C47 v1.toList)) := atc (o := 0) (at0 (hdw arL))
theorem pt5 {a0 : AV} {v1 : Vector Int 64} {w1 : Vector Int 64} : Put ((a0) :: ((List.map C47 v1.toList) ++ ([]))) 1 ((List.map C47 w1.toList)) ((a0) :: ((List.map C47 w1.toList) ++ ([]))) := ZlL (o := 0) (Zq7 (Eq.trans arL (Eq.symm arL)))
theorem al6 {x0 : Int} {v1 : Vector Int 64} : ((.int .i64 x0) :: ((List.map C47 v1.toList) ++ ([]))).all c1B = true := alC rfl (alA (arC fun _ => rfl) (alN))
theorem Zqe (x : api_Found) : (R158 x).all c1B = true := al6
theorem ns7 {x0 : Int} {v1 : Vector Int 64} : NS ((.int .i64 x0) :: ((List.map C47 v1.toList) ++ ([]))) := nsC rfl (nsA (nsM fun _ => rfl) (nsR rfl))
def FK3 (x : Int) : AV := .int .i64 x
theorem Qk : KeyOK Tryz.prog 3 FK3 kqI := Zp8 (fun _ => rfl) tI3
def FV3 (x : Int) : AV := .int .i64 x
def R3 (x : Int) : List AV := [.int .i64 x]
theorem D3 (x : Int) : (R3 x).length = Tryz.prog.cellsOf 3 ∧ (R3 x).all datB = true := ⟨tZ_3.symm, rfl⟩
instance : RowD Tryz.prog 3 R3 := ⟨D3⟩
def C3 (x : Int) : AV := .int .i64 x
theorem at8 {a0 : AV} {v1 : Vector Int 64} {v2 : Vector Int 64} {a3 : AV} {a4 : AV} {a5 : AV} : At ((a0) :: ((List.map C47 v1.toList) ++ (((List.map C3 v2.toList) ++ ((a3) :: (a4) :: (a5) :: []))))) 0 1 ([a0]) := at0 (hdc (n := 0) hd0)
theorem pt9 {a0 : AV} {v1 : Vector Int 64} {v2 : Vector Int 64} {a3 : AV} {a4 : AV} {a5 : AV} {b0 : AV} : Put ((a0) :: ((List.map C47 v1.toList) ++ (((List.map C3 v2.toList) ++ ((a3) :: (a4) :: (a5) :: []))))) 0 ([b0]) ((b0) :: ((List.map C47 v1.toList) ++ (((List.map C3 v2.toList) ++ ((a3) :: (a4) :: (a5) :: []))))) := Zpp
theorem JL {a0 : AV} {v1 : Vector Int 64} {v2 : Vector Int 64} {a3 : AV} {a4 : AV} {a5 : AV} : At ((a0) :: ((List.map C47 v1.toList) ++ (((List.map C3 v2.toList) ++ ((a3) :: (a4) :: (a5) :: []))))) 1 64 ((List.map C47 v1.toList)) := atc (o := 0) (at0 (hdw arL))
theorem Zgc {a0 : AV} {v1 : Vector Int 64} {v2 : Vector Int 64} {a3 : AV} {a4 : AV} {a5 : AV} {w1 : Vector Int 64} : Put ((a0) :: ((List.map C47 v1.toList) ++ (((List.map C3 v2.toList) ++ ((a3) :: (a4) :: (a5) :: []))))) 1 ((List.map C47 w1.toList)) ((a0) :: ((List.map C47 w1.toList) ++ (((List.map C3 v2.toList) ++ ((a3) :: (a4) :: (a5) :: []))))) := ZlL (o := 0) (Zq7 (Eq.trans arL (Eq.symm arL)))
theorem Xz {a0 : AV} {v1 : Vector Int 64} {v2 : Vector Int 64} {a3 : AV} {a4 : AV} {a5 : AV} : At ((a0) :: ((List.map C47 v1.toList) ++ (((List.map C3 v2.toList) ++ ((a3) :: (a4) :: (a5) :: []))))) 65 64 ((List.map C3 v2.toList)) := atc (o := 64) (ata (m := 64) (o := 0) arL (at0 (hdw arL)))
theorem ZeY {a0 : AV} {v1 : Vector Int 64} {v2 : Vector Int 64} {a3 : AV} {a4 : AV} {a5 : AV} {w2 : Vector Int 64} : Put ((a0) :: ((List.map C47 v1.toList) ++ (((List.map C3 v2.toList) ++ ((a3) :: (a4) :: (a5) :: []))))) 65 ((List.map C3 w2.toList)) ((a0) :: ((List.map C47 v1.toList) ++ (((List.map C3 w2.toList) ++ ((a3) :: (a4) :: (a5) :: []))))) := ZlL (o := 64) (ZmQ (m := 64) (o := 0) arL (Zq7 (Eq.trans arL (Eq.symm arL))))
theorem ZeC {a0 : AV} {v1 : Vector Int 64} {v2 : Vector Int 64} {a3 : AV} {a4 : AV} {a5 : AV} : At ((a0) :: ((List.map C47 v1.toList) ++ (((List.map C3 v2.toList) ++ ((a3) :: (a4) :: (a5) :: []))))) 129 1 ([a3]) := atc (o := 128) (ata (m := 64) (o := 64) arL (ata (m := 64) (o := 0) arL (at0 (hdc (n := 0) hd0))))
theorem Zjq {a0 : AV} {v1 : Vector Int 64} {v2 : Vector Int 64} {a3 : AV} {a4 : AV} {a5 : AV} {b3 : AV} : Put ((a0) :: ((List.map C47 v1.toList) ++ (((List.map C3 v2.toList) ++ ((a3) :: (a4) :: (a5) :: []))))) 129 ([b3]) ((a0) :: ((List.map C47 v1.toList) ++ (((List.map C3 v2.toList) ++ ((b3) :: (a4) :: (a5) :: []))))) := ZlL (o := 128) (ZmQ (m := 64) (o := 64) arL (ZmQ (m := 64) (o := 0) arL (Zpp)))
theorem Zfj {a0 : AV} {v1 : Vector Int 64} {v2 : Vector Int 64} {a3 : AV} {a4 : AV} {a5 : AV} : At ((a0) :: ((List.map C47 v1.toList) ++ (((List.map C3 v2.toList) ++ ((a3) :: (a4) :: (a5) :: []))))) 130 1 ([a4]) := atc (o := 129) (ata (m := 64) (o := 65) arL (ata (m := 64) (o := 1) arL (atc (o := 0) (at0 (hdc (n := 0) hd0)))))
theorem Zkv {a0 : AV} {v1 : Vector Int 64} {v2 : Vector Int 64} {a3 : AV} {a4 : AV} {a5 : AV} {b4 : AV} : Put ((a0) :: ((List.map C47 v1.toList) ++ (((List.map C3 v2.toList) ++ ((a3) :: (a4) :: (a5) :: []))))) 130 ([b4]) ((a0) :: ((List.map C47 v1.toList) ++ (((List.map C3 v2.toList) ++ ((a3) :: (b4) :: (a5) :: []))))) := ZlL (o := 129) (ZmQ (m := 64) (o := 65) arL (ZmQ (m := 64) (o := 1) arL (ZlL (o := 0) (Zpp))))
theorem Zl {a0 : AV} {v1 : Vector Int 64} {v2 : Vector Int 64} {a3 : AV} {a4 : AV} {a5 : AV} : ((a0) :: ((List.map C47 v1.toList) ++ (((List.map C3 v2.toList) ++ ((a3) :: (a4) :: (a5) :: []))))).length = 132 := lnC (n := 131) (lnA (m := 64) (n := 67) arL (lnA (m := 64) (n := 3) arL (lnC (n := 2) (lnC (n := 1) (lnC (n := 0) (lnN))))))
theorem Qz {x0 : Int} {v1 : Vector Int 64} {v2 : Vector Int 64} {x3 : Bool} {x4 : Int} {x5 : Bool} : ((.int .i64 x0) :: ((List.map C47 v1.toList) ++ (((List.map C3 v2.toList) ++ ((.bool x3) :: (.int .i64 x4) :: (.bool x5) :: []))))).all datB = true := alC rfl (alA (arD fun _ => rfl) (alA (arD fun _ => rfl) (alC rfl (alC rfl (alC rfl (alN))))))
def R74 (x : api_Rest) : List AV := (.int .i64 x.Number) :: ((List.map C47 x.Frame.toList) ++ (((List.map C3 x.States.toList) ++ ((.bool x.Sound) :: (.int .i64 x.Copies) :: (.bool x.Conflict) :: []))))
def C4 (x : Bool) : AV := .bool x
theorem ZaL {x0 : Int} {v1 : Vector Int 64} {v2 : Vector Int 64} {x3 : Bool} {x4 : Int} {x5 : Bool} : ((.int .i64 x0) :: ((List.map C47 v1.toList) ++ (((List.map C3 v2.toList) ++ ((.bool x3) :: (.int .i64 x4) :: (.bool x5) :: []))))).all c1B = true := alC rfl (alA (arC fun _ => rfl) (alA (arC fun _ => rfl) (alC rfl (alC rfl (alC rfl (alN))))))
theorem Jd {x0 : Int} {v1 : Vector Int 64} {v2 : Vector Int 64} {x3 : Bool} {x4 : Int} {x5 : Bool} : NS ((.int .i64 x0) :: ((List.map C47 v1.toList) ++ (((List.map C3 v2.toList) ++ ((.bool x3) :: (.int .i64 x4) :: (.bool x5) :: []))))) := nsC rfl (nsA (nsM fun _ => rfl) (nsA (nsM fun _ => rfl) (nsC rfl (nsC rfl (nsC rfl (nsR rfl))))))
theorem E74 (x : api_Rest) : (R74 x).all c1B = true := ZaL
theorem D74 (x : api_Rest) : (R74 x).length = Tryz.prog.cellsOf 74 ∧ (R74 x).all datB = true := ⟨Eq.trans (b := 132) Zl tZ_74.symm, Qz⟩
instance : RowD Tryz.prog 74 R74 := ⟨D74⟩
theorem ZkS {a0 : AV} {v1 : Vector Int 64} {v2 : Vector Int 64} {a3 : AV} {a4 : AV} {a5 : AV} : At ((a0) :: ((List.map C47 v1.toList) ++ (((List.map C3 v2.toList) ++ ((a3) :: (a4) :: (a5) :: []))))) 131 1 ([a5]) := atc (o := 130) (ata (m := 64) (o := 66) arL (ata (m := 64) (o := 2) arL (atc (o := 1) (atc (o := 0) (at0 (hdc (n := 0) hd0))))))
theorem Zoj : Zn2 Tryz.prog 49 ((List.replicate 64 ([.i .u16])).flatten) := ⟨by kernel_rfl, by kernel_rfl, by kernel_rfl⟩
theorem ZpJ {a0 : AV} {v1 : Vector Int 64} {v2 : Vector Int 64} {a3 : AV} {a4 : AV} {a5 : AV} {b5 : AV} : Put ((a0) :: ((List.map C47 v1.toList) ++ (((List.map C3 v2.toList) ++ ((a3) :: (a4) :: (a5) :: []))))) 131 ([b5]) ((a0) :: ((List.map C47 v1.toList) ++ (((List.map C3 v2.toList) ++ ((a3) :: (a4) :: (b5) :: []))))) := ZlL (o := 130) (ZmQ (m := 64) (o := 66) arL (ZmQ (m := 64) (o := 2) arL (ZlL (o := 1) (ZlL (o := 0) (Zpp)))))
def R247 (x : api_Flaw) : List AV := [.int .i64 x.Word, .int .i64 x.Kind]
theorem D247 (x : api_Flaw) : (R247 x).length = Tryz.prog.cellsOf 247 ∧ (R247 x).all datB = true := ⟨tZ_247.symm, rfl⟩
instance : RowD Tryz.prog 247 R247 := ⟨D247⟩
theorem Zrz : Zn2 Tryz.prog 72 ((List.replicate 64 ([.i .i64])).flatten) := ⟨by kernel_rfl, by kernel_rfl, by kernel_rfl⟩
theorem ZrY : Zn2 Tryz.prog 74 ((.i .i64 :: ((List.replicate 64 ([.i .u16])).flatten ++ ((List.replicate 64 ([.i .i64])).flatten ++ (.b :: (.i .i64 :: (.b :: []))))))) := ⟨by kernel_rfl, by kernel_rfl, by kernel_rfl⟩
def R68 (x : api_Piece) : List AV := [.sl 5 (List.map R5 x.Bytes), .bool x.Half]
theorem D68 (x : api_Piece) : (R68 x).length = Tryz.prog.cellsOf 68 ∧ (R68 x).all datB = true := ⟨tZ_68.symm, rfl⟩
instance : RowD Tryz.prog 68 R68 := ⟨D68⟩
theorem Zf8 {p : api_Piece} {r : Int} (h : Xl p = some r) :
 CSpec Tryz.prog gl0 56 [.agg [.sl 5 (List.map R5 p.Bytes), .bool p.Half]] (.int .i64 r) := by
 unfold Xl at h
 replace h := Qj h
 refine So Tryz.func56 Y fun w0 A=>Tr<|Rq Y (QK (cva<|ov Y) Y tZ_68 Y)<|Ra Y<|Za<|Zr<|Zk<|K1 1 Y<|Tr<|Rq Y (ZB (ov Y) Zfu)<|Rq Y (Zh (ov Y) Zh3 Y)<|Rl tZ_5 ZaC Y<|R2 JW Y<|Ra Y<|Za<|K2 1 3 Y<|If h Y (fun h=>?_) fun h=>?_
 ·
  refine K0<|Tr<|Ra Y<|Za<|?_
  obtain rfl := rt h
  exact Zz (ZP Y (.one<|rb Y))
 ·
  refine K1 1 Y<|Tr<|Rq Y (ZB (ov Y) Zlo)<|Rq Y (Zh (ov Y) tS4 Y)<|Rm Y<|Rq Y (.guarded (p.Half == true) Y Y Y Y fun h => ZB (ov Y) Zfu)<|Rq Y (.guarded (p.Half == true) Y Y Y Y fun h => Zh (ow Y h) Zh3 Y)<|Rq Y (.guarded (p.Half == true) Y Y Y Y fun h => Zfo (ZG (ow Y h) tZ_5) ZaC<|Zc7 _ _)<|Rq Y (.guarded (p.Half == true) Y Y Y Y fun h => QD (ow Y h)<|ov Y)<|Rq Y (.guarded (p.Half == true) Y Y Y Y fun h => Zc<|ow Y h)<|Rq Y (.guarded2 ((p.Half == true) && ((decide ((p.Bytes.length : Int) = 0)) == false)) Y Y Y Y fun h => ZB (ov Y) Zfu)<|Rq Y (.guarded2 ((p.Half == true) && ((decide ((p.Bytes.length : Int) = 0)) == false)) Y Y Y Y fun h => Zh (ow Y h) Zh3 Y)<|bE h fun x h_x h=>Rq Y (.guarded2 ((p.Half == true) && ((decide ((p.Bytes.length : Int) = 0)) == false)) Y Y Y Y fun h => ZS (ow Y h) (ov Y) ZaC<|gdT h_x h)<|Rq Y (.guarded2 ((p.Half == true) && ((decide ((p.Bytes.length : Int) = 0)) == false)) Y Y Y Y fun h => Zh (ow Y h) tS5 Y)<|bE h fun q h_q h=>Rq Y (.guarded2 ((p.Half == true) && ((decide ((p.Bytes.length : Int) = 0)) == false)) Y Y Y Y fun h => ZfF (ow Y h) (ov Y)<|gdT h_q h)<|Rq Y (.guarded2 ((p.Half == true) && ((decide ((p.Bytes.length : Int) = 0)) == false)) Y Y Y Y fun h => Jl (ow Y h)<|ov Y)<|Rq Y (.guarded (p.Half == true) Y Y Y Y fun h => Zaj (ow Y h) fun hp=>ow Y<|gA h<|gF hp)<|Rq Y (QU (ov Y) fun hp=>ow Y<|gT hp)<|Ra Y<|Za<|K1 8 Y<|If h Y (fun h=>?_) fun h=>?_
  ·
   refine K0<|Tr<|Ra Y<|Za<|?_
   obtain rfl := rt h
   exact Zz (ZP Y (.one<|rb Y))
  ·
   refine Zn<|K0<|Tr<|Ra Y<|Za<|?_
   obtain rfl := rt h
   exact Zz (ZP Y (.one<|rb Y))
theorem Ze9 {p : api_Piece} {r : Int} (h : Jo p = some r) :
 CSpec Tryz.prog gl0 111 [.agg [.sl 5 (List.map R5 p.Bytes), .bool p.Half]] (.int .i64 r) := by
 unfold Jo at h
 replace h := Qj h
 refine So Tryz.func111 Y fun w0 A=>Tr<|Rq Y (QK (cva<|ov Y) Y tZ_68 Y)<|Ra Y<|Za<|Zr<|K1 1 Y<|Tr<|Rq Y (ZB (ov Y) Zlo)<|Rq Y (Zh (ov Y) tS4 Y)<|Za<|K1 4 Y<|If h Y (fun h=>?_) fun h=>?_
 ·
  refine K0<|Tr<|Ra Y<|Za<|?_
  obtain rfl := rt h
  exact Zz (ZP Y (.one<|rb Y))
 ·
  refine Zn<|K0<|Tr<|Ra Y<|Za<|?_
  obtain rfl := rt h
  exact Zz (ZP Y (.one<|rb Y))
theorem Zh8 {p : api_Piece} {r : Int} (h : JE p = some r) :
 CSpec Tryz.prog gl0 109 [.agg [.sl 5 (List.map R5 p.Bytes), .bool p.Half]] (.int .i64 r) := by
 unfold JE at h
 replace h := Qj h
 refine So Tryz.func109 Y fun w0 A=>Tr<|Rq Y (QK (cva<|ov Y) Y tZ_68 Y)<|Ra Y<|Za<|K2 1 2 Y<|Td md0<|Dq 0 Y (ZB (ov Y) Zfu)<|Dq 1 Y (Zh (ov Y) Zh3 Y)<|Dq 2 Y (Zfo (ZG (ov Y) tZ_5) ZaC<|Zc7 _ _)<|D2 3 Zfn Y<|Dq 4 Y (ZF (ov Y) ZfG Y Y)<|bE h fun y h_y h=>Dq 5 Y (Zq (Ze9 h_y)<|.cons (ov Y) (.aggB Y) .nil)<|D2 6 ZdH Y<|D1 7 QG Y<|Dd<|?_
 obtain rfl := rt h
 exact Zz (ZP Y (.one<|rb Y))
theorem ZiD {b : List Int} {i : Int} {r : Int} (h : JG b i = some r) :
 CSpec Tryz.prog gl0 110 [.sl 5 (List.map R5 b), .int .i64 i] (.int .u8 r) := by
 unfold JG at h
 replace h := Qj h
 refine So Tryz.func110 Y fun w0 A=>Tr<|Ra Y<|Za<|Tr<|Rm Y<|Rm Y<|bE h fun q h_q h=>Rq Y (Zbe (ov Y) (ov Y) h_q)<|bE h fun x h_x h=>Rq Y (ZS (ov Y) (ov Y) ZaC h_x)<|Rq Y (Zh (ov Y) tS5 Y)<|Rm Y<|bE h fun q2 h_q2 h=>Rq Y (XA (ov Y) (ov Y) h_q2)<|R2 Zfn Y<|R2 ZdH Y<|bE h fun q3 h_q3 h=>Rq Y (ZfF (ov Y) (ov Y) h_q3)<|R2 Zer Y<|Ra Y<|Za<|?_
 obtain rfl := rt h
 exact Zz (ZP Y (.one<|rb Y))
theorem ZhS {p : api_Piece} {r : (List Int)} (h : X0 p = some r) :
 CSpec Tryz.prog gl0 58 [.agg [.sl 5 (List.map R5 p.Bytes), .bool p.Half]] (.sl 5 (List.map R5 r)) := by
 unfold X0 at h
 replace h := Qj h
 refine So Tryz.func58 Y fun w0 A=>Tr<|Rq Y (QK (cva<|ov Y) Y tZ_68 Y)<|Ra Y<|Za<|K1 1 Y<|Tr<|Rq Y (ZF (ov Y) ZfG Y Y)<|bE h fun y h_y h=>Rq Y (Zq (Zh8 h_y)<|.cons (ov Y) (.aggB Y) .nil)<|bE h fun l h_l h=>Rx Y (ZlS [none] (r := 0) (f := R5) (z0 := 0) Y (ov Y) (ov Y) ZaC Y tZ5 Y Y h_l)<|Ra Y<|Za<|I1 (fun out=>⟨[(3, .own 0 out.length)], [some ⟨5, List.map R5 out⟩]⟩) h (fun h=>?_) fun out h=>?_
 ·
  refine K2 1 3 Y<|Tr<|Rm Y<|Rq Y (Zaf (ov Y) Y Y ZaC)<|Rm Y<|Za<|Zk<|?_
  obtain ⟨r1, hl1, ho1⟩ := QP h
  refine L2 (fun out2 i=>⟨[(1, .rp [.sl 5 (List.map R5 p.Bytes), .bool p.Half] 0), (3, .own 0 out2.length), (9, .int .i64 (l.length : Int)), (10, .int .i64 i)], [some ⟨5, List.map R5 out2⟩]⟩) hl1 (ES [some 0]) fun n1 out2 i h=>?_
  unfold XG at h
  refine Tr<|R2 ZX Y<|Za<|Zr<|If h Y (fun h=>?_) fun h=>?_
  ·
   exact Zn<|Zr<|Zk<|K4 1 3 9 10 Y<|Tr<|Rm Y<|Ra Y<|Za<|K5 1 3 4 9 10 Y<|J6 (cw := md0) (by kernel_rfl)<|D1 0 Zc Y<|D1 1 Zc Y<|Dq 2 Y (ZB (ov Y) Zfu)<|Dq 3 Y (Zh (ov Y) Zh3 Y)<|D1 4 Zc Y<|Dq 5 Y (ZF (ov Y) ZfG Y Y)<|bE h fun y2 h_y2 h=>Dq 6 Y (Zq (Ze9 h_y2)<|.cons (ov Y) (.aggB Y) .nil)<|D2 7 ZZ Y<|bE h fun y3 h_y3 h=>Dq 8 Y (Zq (ZiD h_y3)<|.cons (ov Y) (.b Y)<|.cons (ov Y) (.b Y) .nil)<|bE h fun x h_x h=>Dq 9 Y (XQ (ov Y) (ov Y) ZaC Y Y h_x)<|Do 10 Y (Zb3 (u' := y3) (ov Y) (ov Y) (Zg tS5) Y Y h_x Y (Zb Y) Y)<|Dd<|K4 1 3 9 10 Y<|Zu<|R2 ZZ Y<|Rm Y<|Za<|⟨_, h, ES [some 0]<|sd 1 Y Y<|sr 3 Y (Zj1 (Eq.symm<|(List.length_set ..).trans Y) Y)<|sd 9 Y Y<|sd 10 Y Y sn⟩
  ·
   refine ZL<|?_
   replace h := lx h ▸ ho1
   exact ⟨_, h, ES [some 0]⟩
 ·
  refine Tr<|Rm Y<|Ra Y<|Za<|?_
  obtain rfl := rt h
  exact Zz (ZP Y (.one<|.tmp Y<|View.ownM Y Y D5))
theorem ZcX {h_ : List Int} {r : Int} (h : Xi h_ = some r) :
 CSpec Tryz.prog gl0 197 [.sl 5 (List.map R5 h_)] (.int .u16 r) := by
 unfold Xi at h
 replace h := Qj h
 refine So Tryz.func197 Y fun w0 A=>Tr<|Ra Y<|Za<|Td md0<|D1 0 Zc Y<|bE h fun x h_x h=>Dq 1 Y (ZS (ov Y) (ov Y) ZaC h_x)<|Dq 2 Y (Zh (ov Y) tS5 Y)<|Dq 3 Y (Qi (ov Y) tI5 JV Y)<|bE h fun q h_q h=>Dq 4 Y (Zka (ov Y) (ov Y) h_q)<|D1 5 Zc Y<|bE h fun x2 h_x2 h=>Dq 6 Y (ZS (ov Y) (ov Y) ZaC h_x2)<|Dq 7 Y (Zh (ov Y) tS5 Y)<|Dq 8 Y (Qi (ov Y) tI5 JV Y)<|bE h fun q2 h_q2 h=>Dq 9 Y (Zka (ov Y) (ov Y) h_q2)<|D2 10 Zmh Y<|D1 11 Zc Y<|bE h fun x3 h_x3 h=>Dq 12 Y (ZS (ov Y) (ov Y) ZaC h_x3)<|Dq 13 Y (Zh (ov Y) tS5 Y)<|Dq 14 Y (Qi (ov Y) tI5 JV Y)<|D2 15 Zmh Y<|D1 16 QG Y<|Dd<|?_
 obtain rfl := rt h
 exact Zz (ZP Y (.one<|rb Y))
theorem ZeV {number : Int} {r : Int × Int} (h : Zah number = some r) :
 CSpec Tryz.prog gl0 200 [.int .i64 number] (.tuple [.int .i64 r.1, .int .i64 r.2]) := by
 unfold Zah at h
 replace h := Qj h
 refine So Tryz.func200 Y fun w0 A=>Tr<|Ra Y<|Ra Y<|Za<|Zr<|K1 0 Y<|Tr<|Rm Y<|R2 ZX Y<|Rm Y<|Rq Y (.guarded ((decide (number < 0)) == false) Y Y Y Y fun h => Zc<|ov Y)<|Rq Y (.guarded ((decide (number < 0)) == false) Y Y Y Y fun h => ZdJ (ow Y h)<|ov Y)<|Rq Y (Zaj (ov Y) fun hp=>ow Y<|gF hp)<|Za<|K2 0 9 Y<|If h Y (fun h=>?_) fun h=>?_
 ·
  refine K0<|Tr<|Ra Y<|Ra Y<|Za<|?_
  obtain rfl := rt h
  exact Zz (ZP Y (.two (rb Y)<|rb Y))
 ·
  refine Zn<|K1 0 Y<|Tr<|Rm Y<|bE h fun q h_q h=>Rq Y (XA (ov Y) (ov Y) h_q)<|bE h fun x h_x h=>Rq Y (QA (og (v := gv_frame_syncs) (k := .u16) (f := C47) (by simp [gl0]) fun _=>Y) (ov Y) Zpu h_x)<|Rq Y (Zh (ov Y) QR<|Zj<|Z1 (o := 0) (o' := (q.toNat * 1)) (Ze arL)<|ZN h_x)<|Rq Y (Qi (ov Y) JV tI3 Y)<|Ra Y<|Ra Y<|Za<|?_
  obtain rfl := rt h
  exact Zz (ZP Y (.two (rb Y)<|rb Y))
theorem Zig {w : Int} {r : Bool} (h : Jt w = some r) :
 CSpec Tryz.prog gl0 225 [.int .u16 w] (.bool r) := by
 unfold Jt at h
 replace h := Qj h
 refine So Tryz.func225 Y fun w0 A=>Tr<|Ra Y<|Za<|J0 (fun j => (.inr j)) ⟨[], []⟩ h (fun h=>?_) fun h=>?_
 ·
  refine K1 0 Y<|Tr<|Rm Y<|Za<|Zk<|?_
  obtain ⟨r1, hl1, ho1⟩ := QP h
  refine L1 (fun i=>⟨[(0, .int .u16 w), (6, .int .i64 i)], []⟩) hl1 (ES []) fun n1 i h=>?_
  unfold XJ at h
  refine Tr<|R2 ZX Y<|Za<|Zr<|If h Y (fun h=>?_) fun h=>?_
  ·
   refine Zn<|Zr<|Zk<|K2 0 6 Y<|Tr<|Rm Y<|Ra Y<|Za<|K3 0 3 6 Y<|Tr<|Rm Y<|bE h fun y h_y h=>Rq Y (Zq (ZeV h_y)<|.cons (ov Y) (.b Y) .nil)<|Rm Y<|Rq Y (Zo (ov Y) Y)<|Rq Y (Zo (ov Y) Y)<|Ra Y<|Ra Y<|Za<|K3 0 4 6 Y<|Tr<|Rm Y<|Rq Y (Qi (ov Y) tI3 JV Y)<|Rm Y<|R2 QD Y<|Za<|K3 0 6 17 Y<|If h Y (fun h=>?_) fun h=>?_
   ·
    refine K0<|Tr<|Ra Y<|Za<|?_
    replace h := lx h ▸ ho1
    obtain rfl := rt h
    exact Zz (ZP Y (.one<|rb Y))
   ·
    exact Zn<|K2 0 6 Y<|Zu<|R2 ZZ Y<|Rm Y<|Za<|⟨_, h, ES []⟩
  ·
   refine ZL<|?_
   replace h := lx h ▸ ho1
   exact ⟨_, h, ES []⟩
 ·
  replace h := elr h
  replace h := t0i h
  refine Tr<|Ra Y<|Za<|?_
  obtain rfl := rt h
  exact Zz (ZP Y (.one<|rb Y))
theorem Zhu {w : Vector Int 192} {r : (Vector Int 64)} (h : Jb w = some r) :
 CSpec Tryz.prog gl0 226 [.agg (List.map C5 w.toList)] (.agg (List.map C47 r.toList)) := by
 unfold Jb at h
 replace h := Qj h
 refine So Tryz.func226 Y fun w0 A=>Tr<|Rq Y (QK (cva<|ov Y) arL tZ_261<|arD fun _ => Y)<|Rx Y (ZO (row := (List.map C47 (Vector.replicate 64 0).toList)) 0 Y ZcW Y tZ_49)<|Za<|K2 1 2 Y<|Tr<|Rx Y (ZO (row := (List.map C47 (Vector.replicate 64 0).toList)) 1 Y ZcW Y tZ_49)<|Za<|I1 (fun f=>⟨[(2, .ptr 0 1 0 0), (3, .ptr 1 1 0 0)], [some ⟨49, [(List.map C47 (Vector.replicate 64 0).toList)]⟩, some ⟨49, [(List.map C47 f.toList)]⟩]⟩) h (fun h=>?_) fun f h=>?_
 ·
  refine Tr<|Rm Y<|Za<|Zk<|?_
  obtain ⟨r1, hl1, ho1⟩ := QP h
  refine L2 (fun f2 i=>⟨[(1, .rp (List.map C5 w.toList) 0), (2, .ptr 0 1 0 0), (3, .ptr 1 1 0 0), (5, .int .i64 i)], [some ⟨49, [(List.map C47 (Vector.replicate 64 0).toList)]⟩, some ⟨49, [(List.map C47 f2.toList)]⟩]⟩) hl1 (ES [some 0, some 1]) fun n1 f2 i h=>?_
  unfold Xq at h
  refine Tr<|R2 ZX Y<|Za<|Zr<|If h Y (fun h=>?_) fun h=>?_
  ·
   exact Zn<|Zr<|Zk<|K4 1 2 3 5 Y<|Tr<|Rm Y<|Ra Y<|Za<|K5 1 2 3 4 5 Y<|Zu<|Rm Y<|Rm Y<|R2 Zfn Y<|Rm Y<|R2 Zfn Y<|R2 ZZ Y<|bE h fun l h_l h=>Rq Y (Zpv (f := C5) (ov Y) ZqE tZ_5 (Ze arL) Y (oi<|ov Y) (oi<|ov Y) h_l)<|bE h fun y h_y h=>Rq Y (Zq (ZcX h_y)<|.cons (ov Y) (.b Y) .nil)<|bE h fun x h_x h=>Rq Y (ZY (ov Y) (ov Y) QL Y Y h_x)<|Rx Y (Zf (ov Y) (ov Y) (Zg QR) Y Y Y (arB h_x) (Zb Y)<|arS h_x)<|Za<|K4 1 2 3 5 Y<|Zu<|R2 ZZ Y<|Rm Y<|Za<|⟨_, h, ES [some 0, some 1]⟩
  ·
   refine ZL<|?_
   replace h := lx h ▸ ho1
   exact ⟨_, h, ES [some 0, some 1]⟩
 ·
  refine Tr<|Rq Y (Zy (ov Y) Y Y Y Z3 (Zm<|Ze arL) arL (hns := (nsM fun _ => Y)))<|Rx Y (Zf (ov Y) (ov Y) (Zp Z3 arL) Y Y Y (Zt (Ze arL) arL) (Zb<|arC fun _ => Y)<|ZC<|Eq.trans arL<|Eq.symm arL)<|Za<|?_
  obtain rfl := rt h
  exact Zz (ZP Y (.one<|.agg Y Y Y Y Z3 (Zm<|Ze arL) arL (pwB<|arD fun _ => Y) (hns := (nsM fun _ => Y))))
theorem Zhf {f : Vector Int 64} {r : Bool} (h : Zbd f = some r) :
 CSpec Tryz.prog gl0 177 [.rp (List.map C47 f.toList) 0] (.bool r) := by
 unfold Zbd at h
 replace h := Qj h
 refine So Tryz.func177 Y fun w0 A=>Tr<|Ra Y<|Za<|J0 (fun j => (.inr j)) ⟨[], []⟩ h (fun h=>?_) fun h=>?_
 ·
  refine K1 0 Y<|Tr<|Rm Y<|Za<|Zk<|?_
  obtain ⟨r1, hl1, ho1⟩ := QP h
  refine L1 (fun i=>⟨[(0, .rp (List.map C47 f.toList) 0), (4, .int .i64 i)], []⟩) hl1 (ES []) fun n1 i h=>?_
  unfold J5 at h
  refine Tr<|R2 ZX Y<|Za<|Zr<|If h Y (fun h=>?_) fun h=>?_
  ·
   refine Zn<|Zr<|Zk<|K2 0 4 Y<|Tr<|Rm Y<|Ra Y<|Za<|K3 0 3 4 Y<|Tr<|Rm Y<|Rm Y<|R1 Z4 Y<|bE h fun x h_x h=>Rq Y (QA (ov Y) (ov Y) QL h_x)<|Rq Y (Zh (ov Y) QR<|Zj<|Z1 (o := 0) (o' := (i.toNat * 1)) (Ze arL)<|ZN h_x)<|R2 JW Y<|Za<|K3 0 4 12 Y<|If h Y (fun h=>?_) fun h=>?_
   ·
    refine K0<|Tr<|Ra Y<|Za<|?_
    replace h := lx h ▸ ho1
    obtain rfl := rt h
    exact Zz (ZP Y (.one<|rb Y))
   ·
    exact Zn<|K2 0 4 Y<|Zu<|R2 ZZ Y<|Rm Y<|Za<|⟨_, h, ES []⟩
  ·
   refine ZL<|?_
   replace h := lx h ▸ ho1
   exact ⟨_, h, ES []⟩
 ·
  replace h := elr h
  replace h := t0i h
  refine Tr<|Ra Y<|Za<|?_
  obtain rfl := rt h
  exact Zz (ZP Y (.one<|rb Y))
theorem Jm {w : Int} {r : Int} (h : Xn w = some r) :
 CSpec Tryz.prog gl0 184 [.int .u16 w] (.int .i64 r) := by
 unfold Xn at h
 replace h := Qj h
 refine So Tryz.func184 Y fun w0 A=>Tr<|Ra Y<|Za<|Tr<|Rm Y<|R2 Zer Y<|Rq Y (Qi (ov Y) JV tI3 Y)<|Ra Y<|Za<|?_
 obtain rfl := rt h
 exact Zz (ZP Y (.one<|rb Y))
theorem ZcT {f : Vector Int 64} {r : Int} (h : XF f = some r) :
 CSpec Tryz.prog gl0 133 [.rp (List.map C47 f.toList) 0] (.int .i64 r) := by
 unfold XF at h
 replace h := Qj h
 refine So Tryz.func133 Y fun w0 A=>Tr<|Ra Y<|Za<|Td md0<|D1 0 Zc Y<|D1 1 Z4 Y<|bE h fun x h_x h=>Dq 2 Y (QA (ov Y) (ov Y) QL h_x)<|Dq 3 Y (Zh (ov Y) QR<|Zj<|Z1 (o := 0) (o' := ((Int.toNat 1) * 1)) (Ze arL)<|ZN h_x)<|bE h fun y h_y h=>Dq 4 Y (Zq (Jm h_y)<|.cons (ov Y) (.b Y) .nil)<|D1 5 Zc Y<|D1 6 Z4 Y<|bE h fun x2 h_x2 h=>Dq 7 Y (QA (ov Y) (ov Y) QL h_x2)<|Dq 8 Y (Zh (ov Y) QR<|Zj<|Z1 (o := 0) (o' := ((Int.toNat 2) * 1)) (Ze arL)<|ZN h_x2)<|bE h fun y2 h_y2 h=>Dq 9 Y (Zq (Jm h_y2)<|.cons (ov Y) (.b Y) .nil)<|bE h fun q h_q h=>Dq 10 Y (Zka (ov Y) (ov Y) h_q)<|D2 11 Zmh Y<|D1 12 QG Y<|Dd<|?_
 obtain rfl := rt h
 exact Zz (ZP Y (.one<|rb Y))
theorem Zet {f : Vector Int 64} {r : Int} (h : JX f = some r) :
 CSpec Tryz.prog gl0 134 [.rp (List.map C47 f.toList) 0] (.int .i64 r) := by
 unfold JX at h
 replace h := Qj h
 refine So Tryz.func134 Y fun w0 A=>Tr<|Ra Y<|Za<|K1 0 Y<|Tr<|Ra Y<|Za<|I1 (fun n=>⟨[(3, .int .i64 n)], []⟩) h (fun h=>?_) fun n h=>?_
 ·
  refine Tr<|Rm Y<|Za<|Zk<|?_
  obtain ⟨r1, hl1, ho1⟩ := QP h
  refine L2 (fun n2 i=>⟨[(0, .rp (List.map C47 f.toList) 0), (3, .int .i64 n2), (5, .int .i64 i)], []⟩) hl1 (ES []) fun n1 n2 i h=>?_
  unfold JF at h
  refine Tr<|R2 ZX Y<|Za<|Zr<|If h Y (fun h=>?_) fun h=>?_
  ·
   exact Zn<|Zr<|Zk<|K3 0 3 5 Y<|Tr<|Rm Y<|Ra Y<|Za<|K4 0 3 4 5 Y<|Zu<|Rm Y<|Rm Y<|Rm Y<|R2 ZZ Y<|R1 Z4 Y<|bE h fun x h_x h=>Rq Y (QA (ov Y) (ov Y) QL h_x)<|Rq Y (Zh (ov Y) QR<|Zj<|Z1 (o := 0) (o' := ((i64 (i + 1)).toNat * 1)) (Ze arL)<|ZN h_x)<|bE h fun y h_y h=>Rq Y (Zq (Jm h_y)<|.cons (ov Y) (.b Y) .nil)<|R2 Zgn Y<|Ra Y<|Za<|K3 0 3 5 Y<|Zu<|R2 ZZ Y<|Rm Y<|Za<|⟨_, h, ES []⟩
  ·
   refine ZL<|?_
   replace h := lx h ▸ ho1
   exact ⟨_, h, ES []⟩
 ·
  refine Tr<|Rm Y<|Ra Y<|Za<|?_
  obtain rfl := rt h
  exact Zz (ZP Y (.one<|rb Y))
theorem Zhc {x : Int} {r : Int} (h : Zaz x = some r) :
 CSpec Tryz.prog gl0 183 [.int .u16 x] (.int .i64 r) := by
 unfold Zaz at h
 replace h := Qj h
 refine So Tryz.func183 Y fun w0 A=>Tr<|Ra Y<|Za<|Td md0<|D1 0 Zc Y<|bE h fun q h_q h=>Dq 1 Y (ZfF (ov Y) (ov Y) h_q)<|bE h fun b h_b h=>Dq 2 Y (Zmf (ov Y) (ov Y) ZqB h_b)<|D1 3 Zc Y<|D2 4 Zer Y<|bE h fun b2 h_b2 h=>Dq 5 Y (Zmf (ov Y) (ov Y) ZqB h_b2)<|D2 6 ZZ Y<|Dq 7 Y (Qi (ov Y) tI5 tI3 Y)<|D1 8 QG Y<|Dd<|?_
 obtain rfl := rt h
 exact Zz (ZP Y (.one<|rb Y))
theorem ZcL {w : Int} {r : Bool} (h : Zat w = some r) :
 CSpec Tryz.prog gl0 132 [.int .u16 w] (.bool r) := by
 unfold Zat at h
 replace h := Qj h
 refine So Tryz.func132 Y fun w0 A=>Tr<|Ra Y<|Za<|Tr<|Rm Y<|R2 ZgE Y<|Rm Y<|Rq Y (.guarded ((decide (w ≤ 4095)) == true) Y Y Y Y fun h => Zc<|ov Y)<|bE h fun y h_y h=>Rq Y (.guarded ((decide (w ≤ 4095)) == true) Y Y Y Y fun h => Zq (Zhc<|gdT h_y h)<|.cons (ow Y h) (.b Y) .nil)<|bE h fun q h_q h=>Rq Y (.guarded ((decide (w ≤ 4095)) == true) Y Y Y Y fun h => XA (ow Y h) (ov Y)<|gdT h_q h)<|Rq Y (.guarded ((decide (w ≤ 4095)) == true) Y Y Y Y fun h => QD (ow Y h)<|ov Y)<|Rq Y (QU (ov Y) fun hp=>ow Y<|gT hp)<|Ra Y<|Za<|?_
 obtain rfl := rt h
 exact Zz (ZP Y (.one<|rb Y))
theorem Zdk {f : Vector Int 64} {r : Int} (h : XU f = some r) :
 CSpec Tryz.prog gl0 135 [.rp (List.map C47 f.toList) 0] (.int .i64 r) := by
 unfold XU at h
 replace h := Qj h
 refine So Tryz.func135 Y fun w0 A=>Tr<|Ra Y<|Za<|K1 0 Y<|Tr<|Ra Y<|Za<|I1 (fun n=>⟨[(3, .int .i64 n)], []⟩) h (fun h=>?_) fun n h=>?_
 ·
  refine Tr<|Rm Y<|Za<|Zk<|?_
  obtain ⟨r1, hl1, ho1⟩ := QP h
  refine L2 (fun n2 i=>⟨[(0, .rp (List.map C47 f.toList) 0), (3, .int .i64 n2), (7, .int .i64 i)], []⟩) hl1 (ES []) fun n1 n2 i h=>?_
  unfold XR at h
  refine Tr<|R2 ZX Y<|Za<|Zr<|If h Y (fun h=>?_) fun h=>?_
  ·
   refine Zn<|I1 (fun n3=>⟨[(0, .rp (List.map C47 f.toList) 0), (3, .int .i64 n3), (7, .int .i64 i)], []⟩) h (fun h=>?_) fun n3 h=>?_
   ·
    refine Zk<|K3 0 3 7 Y<|Tr<|Rm Y<|Ra Y<|Za<|K4 0 3 4 7 Y<|Tr<|Ra Y<|Za<|Zk<|?_
    obtain ⟨r2, hl2, ho2⟩ := QP h
    refine L2 (fun n4 k=>⟨[(0, .rp (List.map C47 f.toList) 0), (3, .int .i64 n4), (4, .int .i64 i), (5, .int .i64 k), (7, .int .i64 i)], []⟩) hl2 (ES []) fun n2 n4 k h=>?_
    unfold Xt at h
    refine Zr<|Tr<|Rm Y<|R2 ZdJ Y<|Za<|K6 0 3 4 5 7 11 Y<|If h Y (fun h=>?_) fun h=>?_
    ·
     refine Zn<|Zr<|Zk<|K5 0 3 4 5 7 Y<|Tr<|Rm Y<|R2 Zer Y<|R2 Jl Y<|Ra Y<|Za<|K6 0 3 4 5 6 7 Y<|Tr<|Rm Y<|bE h fun q h_q h=>Rq Y (Zka (ov Y) (ov Y) h_q)<|R2 Zer Y<|Ra Y<|Za<|K6 0 3 4 5 6 7 Y<|Tr<|Rm Y<|Rm Y<|Rm Y<|R1 Z4 Y<|bE h fun x h_x h=>Rq Y (QA (ov Y) (ov Y) QL h_x)<|Rq Y (Zh (ov Y) QR<|Zj<|Z1 (o := 0) (o' := (i.toNat * 1)) (Ze arL)<|ZN h_x)<|Rm Y<|bE h fun q2 h_q2 h=>Rq Y (ZfF (ov Y) (ov Y) h_q2)<|R2 Zer Y<|R2 QD Y<|Rq Y (Zms .neq (by simp) (ov Y) (ov Y) tB4)<|Za<|K6 0 3 4 5 7 30 Y<|If h Y (fun h=>?_) fun h=>?_
     ·
      exact K5 0 3 4 5 7 Y<|Zu<|Rm Y<|R2 Zgn Y<|Ra Y<|Za<|K5 0 3 4 5 7 Y<|Zu<|Rm Y<|R2 ZdH Y<|Ra Y<|Za<|⟨_, h, ES []⟩
     ·
      exact Zn<|K5 0 3 4 5 7 Y<|Zu<|Rm Y<|R2 ZdH Y<|Ra Y<|Za<|⟨_, h, ES []⟩
    ·
     refine ZL<|?_
     replace h := lx h ▸ ho2
     exact ⟨_, h, ES []⟩
   ·
    exact Zu<|R2 ZZ Y<|Rm Y<|Za<|⟨_, h, ES []⟩
  ·
   refine ZL<|?_
   replace h := lx h ▸ ho1
   exact ⟨_, h, ES []⟩
 ·
  refine Tr<|Rm Y<|Ra Y<|Za<|?_
  obtain rfl := rt h
  exact Zz (ZP Y (.one<|rb Y))
theorem ZgA {f : Vector Int 64} {r : Bool} (h : ZaE f = some r) :
 CSpec Tryz.prog gl0 179 [.rp (List.map C47 f.toList) 0] (.bool r) := by
 unfold ZaE at h
 replace h := Qj h
 refine So Tryz.func179 Y fun w0 A=>Tr<|Ra Y<|Za<|Zr<|K1 0 Y<|Td md0<|D1 0 Zc Y<|bE h fun y h_y h=>Dq 1 Y (Zq (Zhf h_y)<|.cons (ov Y) (.b Y) .nil)<|D1 2 Zc Y<|Dq 3 Y (.guarded (y == false) Y Y Y Y fun h => Zc<|ov Y)<|Dq 4 Y (.guarded (y == false) Y Y Y Y fun h => Z4<|ow Y h)<|bE h fun x h_x h=>Dq 5 Y (.guarded (y == false) Y Y Y Y fun h => QA (ow Y h) (ov Y) QL<|gdT h_x h)<|Dq 6 Y (.guarded (y == false) Y Y Y Y fun h => Zh (ow Y h) QR<|Zj<|Z1 (o := 0) (o' := ((Int.toNat 0) * 1)) (Ze arL)<|ZN<|gdT h_x h)<|Dq 7 Y (.guarded (y == false) Y Y Y Y fun h => Zc<|ov Y)<|bE h fun y2 h_y2 h=>Dq 8 Y (.guarded (y == false) Y Y Y Y fun h => Zq (ZcT<|gdT h_y2 h)<|.cons (ow Y h) (.b Y) .nil)<|bE h fun q h_q h=>Dq 9 Y (.guarded (y == false) Y Y Y Y fun h => XA (ow Y h) (ov Y)<|gdT h_q h)<|bE h fun x2 h_x2 h=>Dq 10 Y (.guarded (y == false) Y Y Y Y fun h => QA (og (v := gv_frame_syncs) (k := .u16) (f := C47) (by simp [gl0]) fun _=>Y) (ow Y h) Zpu<|gdT h_x2 h)<|Dq 11 Y (.guarded (y == false) Y Y Y Y fun h => Zh (ow Y h) QR<|Zj<|Z1 (o := 0) (o' := (q.toNat * 1)) (Ze arL)<|ZN<|gdT h_x2 h)<|Dq 12 Y (.guarded (y == false) Y Y Y Y fun h => Jl (ow Y h)<|ow Y h)<|Dq 13 Y (Zaj (ov Y) fun hp=>ow Y<|gF hp)<|D1 14 Zc Y<|Dq 15 Y (.guarded ((y || (!decide (x = x2))) == false) Y Y Y Y fun h => Zc<|ov Y)<|Dq 16 Y (.guarded ((y || (!decide (x = x2))) == false) Y Y Y Y fun h => Z4<|ow Y h)<|bE h fun x3 h_x3 h=>Dq 17 Y (.guarded ((y || (!decide (x = x2))) == false) Y Y Y Y fun h => QA (ow Y h) (ov Y) QL<|gdT h_x3 h)<|Dq 18 Y (.guarded ((y || (!decide (x = x2))) == false) Y Y Y Y fun h => Zh (ow Y h) QR<|Zj<|Z1 (o := 0) (o' := ((Int.toNat 61) * 1)) (Ze arL)<|ZN<|gdT h_x3 h)<|bE h fun y3 h_y3 h=>Dq 19 Y (.guarded ((y || (!decide (x = x2))) == false) Y Y Y Y fun h => Zq (Jm<|gdT h_y3 h)<|.cons (ow Y h) (.b Y) .nil)<|Dq 20 Y (.guarded ((y || (!decide (x = x2))) == false) Y Y Y Y fun h => Zc<|ov Y)<|bE h fun y4 h_y4 h=>Dq 21 Y (.guarded ((y || (!decide (x = x2))) == false) Y Y Y Y fun h => Zq (Zet<|gdT h_y4 h)<|.cons (ow Y h) (.b Y) .nil)<|Dq 22 Y (.guarded ((y || (!decide (x = x2))) == false) Y Y Y Y fun h => Jl (ow Y h)<|ow Y h)<|Dq 23 Y (Zaj (ov Y) fun hp=>ow Y<|gF hp)<|Dd<|K2 0 27 Y<|If h Y (fun h=>?_) fun h=>?_
 ·
  refine K0<|Tr<|Ra Y<|Za<|?_
  obtain rfl := rt h
  exact Zz (ZP Y (.one<|rb Y))
 ·
  refine Zn<|J0 (fun j => (.inr j)) ⟨[(0, .rp (List.map C47 f.toList) 0)], []⟩ h (fun h=>?_) fun h=>?_
  ·
   refine K1 0 Y<|Tr<|Ra Y<|Za<|Zk<|?_
   obtain ⟨r1, hl1, ho1⟩ := QP h
   refine L1 (fun i=>⟨[(0, .rp (List.map C47 f.toList) 0), (3, .int .i64 i)], []⟩) hl1 (ES []) fun n1 i h=>?_
   unfold Jv at h
   refine Zr<|Tr<|Rm Y<|R2 ZX Y<|Za<|K3 0 3 29 Y<|If h Y (fun h=>?_) fun h=>?_
   ·
    refine Zn<|Zr<|Zk<|K2 0 3 Y<|Tr<|Rm Y<|Rm Y<|R1 Z4 Y<|bE h fun x4 h_x4 h=>Rq Y (QA (ov Y) (ov Y) QL h_x4)<|Rq Y (Zh (ov Y) QR<|Zj<|Z1 (o := 0) (o' := (i.toNat * 1)) (Ze arL)<|ZN h_x4)<|bE h fun y5 h_y5 h=>Rq Y (Zq (ZcL h_y5)<|.cons (ov Y) (.b Y) .nil)<|R1 Jn Y<|Za<|K3 0 3 38 Y<|If h Y (fun h=>?_) fun h=>?_
    ·
     refine K0<|Tr<|Ra Y<|Za<|?_
     replace h := lx h ▸ ho1
     obtain rfl := rt h
     exact Zz (ZP Y (.one<|rb Y))
    ·
     exact Zn<|K2 0 3 Y<|Zu<|Rm Y<|R2 ZZ Y<|Ra Y<|Za<|⟨_, h, ES []⟩
   ·
    refine ZL<|?_
    replace h := lx h ▸ ho1
    exact ⟨_, h, ES []⟩
  ·
   replace h := elr h
   replace h := t0i h
   refine Td md0<|D1 0 Zc Y<|D1 1 Z4 Y<|bE h fun x5 h_x5 h=>Dq 2 Y (QA (ov Y) (ov Y) QL h_x5)<|Dq 3 Y (Zh (ov Y) QR<|Zj<|Z1 (o := 0) (o' := ((Int.toNat 62) * 1)) (Ze arL)<|ZN h_x5)<|bE h fun y6 h_y6 h=>Dq 4 Y (Zq (Jm h_y6)<|.cons (ov Y) (.b Y) .nil)<|bE h fun q2 h_q2 h=>Dq 5 Y (Zka (ov Y) (ov Y) h_q2)<|D1 6 Zc Y<|D1 7 Z4 Y<|bE h fun x6 h_x6 h=>Dq 8 Y (QA (ov Y) (ov Y) QL h_x6)<|Dq 9 Y (Zh (ov Y) QR<|Zj<|Z1 (o := 0) (o' := ((Int.toNat 63) * 1)) (Ze arL)<|ZN h_x6)<|bE h fun y7 h_y7 h=>Dq 10 Y (Zq (Jm h_y7)<|.cons (ov Y) (.b Y) .nil)<|D2 11 Zmh Y<|D1 12 Zc Y<|bE h fun y8 h_y8 h=>Dq 13 Y (Zq (Zdk h_y8)<|.cons (ov Y) (.b Y) .nil)<|D2 14 QD Y<|D1 15 QG Y<|Dd<|?_
   obtain rfl := rt h
   exact Zz (ZP Y (.one<|rb Y))
theorem ZgO {f : Vector Int 64} {r : Bool} (h : ZaH f = some r) :
 CSpec Tryz.prog gl0 180 [.agg (List.map C47 f.toList)] (.bool r) := by
 unfold ZaH at h
 replace h := Qj h
 refine So Tryz.func180 Y fun w0 A=>Tr<|Rq Y (QK (cva<|ov Y) arL tZ_49<|arD fun _ => Y)<|Ra Y<|Za<|K2 1 2 Y<|Tr<|bE h fun y h_y h=>Rq Y (Zq (ZgA h_y)<|.cons (ov Y) (.b Y) .nil)<|Ra Y<|Za<|?_
 obtain rfl := rt h
 exact Zz (ZP Y (.one<|rb Y))
theorem ZpM {h_ : List Int} {out r : List api_Found} {l Bx : Nat} {rec : Loop} (hY : ∀ (x : api_Found) (xs ys : List api_Found), app xs [x] = some ys → ZoD Tryz.prog gl0 l rec Bx [.int .i64 x.At, .agg (List.map C47 x.Frame.toList)] [some ⟨153, [[.own 1 xs.length]]⟩, some ⟨158, List.map R158 xs⟩] [some ⟨153, [[.own 1 ys.length]]⟩, some ⟨158, List.map R158 ys⟩]) (h : JS h_ out = some r) :
 Znw Tryz.prog gl0 224 l rec Bx [.lit (.func (.yield l) #[] #[]), .rp [.sl 5 (List.map R5 h_)] 0] [some ⟨153, [[.own 1 out.length]]⟩, some ⟨158, List.map R158 out⟩] [some ⟨153, [[.own 1 r.length]]⟩, some ⟨158, List.map R158 r⟩] := by
 unfold JS at h
 replace h := Qj h
 refine Zse Tryz.func224 Y Y Y Y<|?_
 intro w0 A W φ0 hrec hlW hB1 hB2 hB3
 refine Tr<|Ra Y<|Za<|Zk<|?_
 obtain ⟨r1, hl1, ho1⟩ := QP h
 refine L2 (fun o at_=>⟨[(0, .lit (.func (.yield l) #[] #[])), (1, .rp [.sl 5 (List.map R5 h_)] 0), (3, .int .i64 at_)], [some ⟨153, [[.own 1 o.length]]⟩, some ⟨158, List.map R158 o⟩]⟩) hl1 (ES [some 0, some 1]) fun n1 o at_ h=>?_
 unfold Xp at h
 refine Zr<|Tr<|Rm Y<|R2 ZZ Y<|Rq Y (Zh (ov Y) Zh3 Y)<|Rl tZ_5 ZaC Y<|R2 ZgE Y<|Za<|K4 0 1 3 9 Y<|If h Y (fun h=>?_) fun h=>?_
 ·
  refine Zn<|J1 (fun j => (.inr j)) (fun o2=>⟨[(0, .lit (.func (.yield l) #[] #[])), (1, .rp [.sl 5 (List.map R5 h_)] 0), (3, .int .i64 at_)], [some ⟨153, [[.own 1 o2.length]]⟩, some ⟨158, List.map R158 o2⟩]⟩) h (fun h=>?_) fun o2 h=>?_
  ·
   refine Zk<|Zr<|K3 0 1 3 Y<|Tr<|Rq Y (Zh (ov Y) Zh3 Y)<|Rm Y<|Rm Y<|R2 ZZ Y<|bE h fun l h_l h=>Rq Y (Zj8 (ov Y) ZaC (oi<|ov Y) (oi<|ov Y) h_l)<|bE h fun y h_y h=>Rq Y (Zq (ZcX h_y)<|.cons (ov Y) (.b Y) .nil)<|bE h fun y2 h_y2 h=>Rq Y (Zq (Zig h_y2)<|.cons (ov Y) (.b Y) .nil)<|R1 Jn Y<|Za<|K4 0 1 3 19 Y<|If h Y (fun h=>?_) fun h=>?_
   ·
    exact ZL<|⟨_, h, ES [some 0, some 1]⟩
   ·
    refine Zn<|K3 0 1 3 Y<|Tr<|Rq Y (Zh (ov Y) Zh3 Y)<|Rm Y<|Rm Y<|R2 ZZ Y<|bE h fun l2 h_l2 h=>Rq Y (Zj8 (ov Y) ZaC (oi<|ov Y) (oi<|ov Y) h_l2)<|bE h fun v h_v h=>Rq Y (Zrc (f := C5) (ov Y) ZqE tZ_5 Y h_v)<|Rq Y (ZF (ov Y) ZrK (Zm<|Ze arL) arL)<|bE h fun y3 h_y3 h=>Rq Y (Zq (Zhu h_y3)<|.cons (ov Y) (.aggB<|arD fun _ => Y) .nil)<|Rx Y (ZO (row := (List.map C47 (Vector.replicate 64 0).toList)) 2 Y ZcW Y tZ_49)<|Rx Y (Zf (ov Y) (ov Y) (Zp Z3 arL) Y Y Y (Zt (Ze arL) arL) (Zb<|arC fun _ => Y)<|ZC<|Eq.trans arL<|Eq.symm arL)<|Za<|K4 0 1 3 4 Y<|Zr<|Zsc<|Zhw<|Zip _ Y Y (Zy (ov Y) Y Y Y Z3 (Zm<|Ze arL) arL (hns := (nsM fun _ => Y)))<|bE h fun y4 h_y4 h=>Zip _ Y Y (Zq (ZgO h_y4)<|.cons (ov Y) (.aggB<|arD fun _ => Y) .nil)<|Zip _ Y Y (Zc<|ov Y)<|?_
    rcases ifR h with ⟨hg, h⟩ | ⟨hg, h⟩
    ·
     refine Zou (d := 30) (b' := true) Y (Zsh hg)<|Zno _ Y Y Y Y Y (Zc<|ov Y)<|Zno _ Y Y Y Y Y (Zc<|ov Y)<|Zno _ Y Y Y Y Y (Zy (ov Y) Y Y Y Z3 (Zm<|Ze arL) arL (hns := (nsM fun _ => Y)))<|bE h fun out2 h_out2 h=>ZpC Y [0, 1] (.cons (ov Y) (.dat Y)<|.cons (ov Y) (ZqM<|rld<|arD fun _ => Y) .nil) (hY (api_Found.mk at_ y3) _ _ h_out2) Y hrec hlW (by exact Nat.zero_lt_succ _) hB1 hB2 hB3 Y Y (.cons Y (ro1 (by exact tZ_153.symm)<|rlc (.own _ Y) rln)<|.cons Y (roM D158) .nil) Y (.lent 0 (.inl Y) Y (ro1 (by exact tZ_153.symm)<|rlc (.own _<|.inl Y) rln)<|.lent 1 (.inl Y) Y (roM D158)<|.keep Y Y .nil) Y Y (fun _ _ _ hc=>ZmV Y Y Y hc) Y<|Zno _ Y Y Y Y Y (Jn<|ov Y)<|Zip _ Y Y (Zqq (ov Y)<|ov Y)<|ZgB<|K4 0 1 3 36 Y<|If h Y (fun h=>?_) fun h=>?_
     ·
      replace h := lx h ▸ ho1
      obtain rfl := rt h
      exact Zz<|Zmb [some 0, some 1] Y .nil (.cons Y (ro1 (by exact tZ_153.symm)<|rlc (.own _ Y) rln)<|.cons Y (roM D158) .nil) Y Y<|ZkV<|rld Y
     ·
      exact Zn<|⟨_, h, ES [some 0, some 1]⟩
    ·
     refine Zou (d := 30) (b' := false) Y (Zr9 hg)<|ZgQ Y Y Y Y Y<|ZgQ Y Y Y Y Y<|ZgQ Y Y Y Y Y<|ZgQ Y Y Y Y Y<|ZgQ Y Y Y Y Y<|Zip _ Y Y (Zqk (ov Y)<|ov Y)<|ZgB<|K4 0 1 3 36 Y<|ZnZ h Y (fun b36 h=>?_) fun b36 h=>?_
     ·
      exact Bool.noConfusion b36
     ·
      exact Zn<|⟨_, h, ES [some 0, some 1]⟩
  ·
   replace h := elr h
   replace h := t1i h
   exact Zu<|Rm Y<|R2 ZZ Y<|Ra Y<|Za<|⟨_, h, ES [some 0, some 1]⟩
 ·
  refine ZL<|?_
  replace h := lx h ▸ ho1
  obtain rfl := rt h
  exact Zo7 [some 0, some 1] Y .nil (.cons Y (ro1 (by exact tZ_153.symm)<|rlc (.own _ Y) rln)<|.cons Y (roM D158) .nil) Y Y<|ZkV<|rld Y
theorem ZnR (h_ : List Int) : CSpec Tryz.prog gl0 217 [.sl 5 (List.map R5 h_)] (.fn 224 [.rp [.sl 5 (List.map R5 h_)] 0]) := by
 refine So Tryz.func217 Y fun w0 A=>Tr<|Rq Y (QK (cvs (ov Y)<|ZU Y) Y tZ_66 Y)<|Ra Y<|Za<|Tr<|Rq Y (Zho<|.cons (ov Y) .nil)<|Ra Y<|Za<|Zz<|ZP Y<|.one<|.tmp Y<|Dat.view<|.fnC<|.cons (.b Y) .nil
theorem ZjF {h_ : List Int} {r : List api_Found} (h : ZaK h_ = some r) :
 CSpec Tryz.prog gl0 194 [.sl 5 (List.map R5 h_)] (.sl 158 (List.map R158 r)) := by
 unfold ZaK at h
 refine Zl1 (by kernel_rfl) Tryz.func194 Y Y<|?_
 intro w0 A
 refine ZlI<|Zhw<|Zip _ Y Y (QG<|ov Y)<|ZgB<|ZlI<|Zhw<|Zpb _ _ Y Y (ZO (row := [_]) 0 Y ZrS Y tZ_153)<|ZgB<|Zrf<|ZlI<|Zhw<|Zip _ Y Y (Zc<|ov Y)<|Zip _ Y Y (Zq (ZnR h_)<|.cons (ov Y) (.b Y) .nil)<|Zpj (Ent.sel [some 0, none] (sd 0 Y Y<|sd 2 Y Y<|sr 3 Y (.ptr (r' := 0) _ _ _ Y)<|sd 6 Y Y<|sr 7 Y (rFn<|rlc (.dat Y) rln) sn) (.cons Y (ro1 (by exact tZ_153.symm)<|rlc (.row (r' := 1) Y) rln)<|.row 158 .nil) Y Y)<|ZgB<|ZoO (n := 3) (os := [some ⟨153, [[.own 1 ([] : List api_Found).length]]⟩, some ⟨158, List.map R158 ([] : List api_Found)⟩]) (os' := [some ⟨153, [[.own 1 r.length]]⟩, some ⟨158, List.map R158 r⟩]) (hp' := [some ⟨153, [[.own 1 r.length]]⟩, some ⟨158, List.map R158 r⟩]) [0, 1] Y Y Y (by kernel_rfl) Y Y (fun Bx l fn φ a w hc hBx hmp=>?_) (.cons Y (ro1 (by exact tZ_153.symm)<|rlc (.own _ Y) rln)<|.cons Y (roM D158) .nil) Y (.lent 0 (.inl Y) Y (ro1 (by exact tZ_153.symm)<|rlc (.own _<|.inl Y) rln)<|.lent 1 (.inl Y) Y (roM D158) .nil) Y Y (tp := 3) Y ?_
 ·
  refine ZpM (fun x xs l h_l=>?_) h
  refine Zsd (tm := [(3, .ptr 0 1 0 0), (8, .int .i64 x.At), (9, .agg (List.map C47 x.Frame.toList))]) (st1 := ⟨(5, .ptr 2 1 0 0) :: (4, .int .i64 x.At) :: [(3, .ptr 0 1 0 0), (8, .int .i64 x.At), (9, .agg (List.map C47 x.Frame.toList))], [some ⟨153, [[.own 1 xs.length]]⟩, some ⟨158, List.map R158 xs⟩, some ⟨49, [(List.map C47 x.Frame.toList)]⟩]⟩) Y Y Y hc.size (ZqT Y (by show Nat.blt _ a.tmps.size = true; rw [hc.size]; rfl) (by show Nat.blt _ a.tmps.size = true; rw [hc.size]; rfl) Y Y Y Y Y<|ZoY hc Y Y Y hBx) (fun w0 A W φ0=>?_) fun w0 A W φ0=>?_
  ·
   exact ZqP<|Zhw<|Zip _ Y Y (QG<|ov Y)<|ZgB<|Zhw<|Zpb _ _ Y Y (ZO (row := (List.map C47 (Vector.replicate 64 0).toList)) 2 Y ZcW Y tZ_49)<|Zpb _ _ Y Y (Zf (ov Y) (ov Y) (Zp Z3 arL) Y Y Y (Zt (Ze arL) arL) (Zb<|arC fun _ => Y)<|ZC<|Eq.trans arL<|Eq.symm arL)<|ZgB ⟨Y, Y⟩
  ·
   exact ZoQ<|Zhw<|Zip _ Y Y (Zi (ov Y) Y Y Y Zd0 Y)<|Zip _ Y Y (Zc<|ov Y)<|Zip _ Y Y (Zy (ov Y) Y Y Y Z3 (Zm<|Ze arL) arL (hns := (nsM fun _ => Y)))<|Zip _ Y Y (ZaR (zr := (.int .i64 0) :: ((List.map C47 (Vector.replicate 64 0).toList) ++ ([]))) Zpa Zpm Zgg (by kernel_rfl) (.cons (cvs (ov Y)<|ZU Y)<|.cons (cva<|ov Y) .nil)<|Xf Y Y at2 pt3<|Xf Y arL at4 pt5 ZdO)<|Zip _ Y Y (Xv QI (.cons (cva<|ov Y) ln0 (pwD al1) .nil) Y Y)<|Zpb _ _ Y Y (Zv (ov Y) (ZG (ov Y) tZ_158) QI Y Y Y (fun x=>Zb<|Zqe x) Y h_l)<|Zpb _ _ Y Y (Zf (ov Y) (ov Y) (Zg Zd0) Y Y Y (Nat.le_of_ble_eq_true Y) (Zb Y) Y)<|Zpj (Ent.sel [some 0, some 1] sn (.cons Y (ro1 (by exact tZ_153.symm)<|rlc (.own (r' := 1) _ Y) rln)<|.cons Y (roM D158) .nil) Y Y)<|ZgB ⟨Y, Y⟩
 ·
  exact ZqI<|Zrv _ Y Y Y (Zi (ov Y) Y Y Y Zd0 Y)<|Zrv _ Y Y Y (QG<|ov Y)<|Zq1<|Zra (.one<|.tmp Y<|View.ownM Y Y D158) Y Y
theorem ZgC {h_ : List Int} {r : (List api_Found)} (h : X9 h_ = some r) :
 GSpec Tryz.prog gl0 153 [.sl 5 (List.map R5 h_)] [] (.own 0 r.length) [some ⟨158, List.map R158 r⟩] := by
 unfold X9 at h
 replace h := Qj h
 refine Zes (by kernel_rfl) Tryz.func153 Y Y<|?_
 intro w0 A W φ0
 refine Tr<|Ra Y<|Za<|K1 0 Y<|Tr<|Rm Y<|bE h fun y h_y h=>Rq Y (Zq (ZjF h_y)<|.cons (ov Y) (.b Y) .nil)<|Ra Y<|Za<|K1 3 Y<|Tr<|Ra Y<|Za<|I1 (fun out=>⟨[(4, .own 0 out.length)], [some ⟨158, List.map R158 out⟩]⟩) h (fun h=>?_) fun out h=>?_
 ·
  refine Tr<|Rm Y<|Rl tZ_158 QI Y<|Rm Y<|Za<|Zk<|?_
  obtain ⟨r1, hl1, ho1⟩ := QP h
  refine L2 (fun out2 i=>⟨[(3, .sl 158 (List.map R158 y)), (4, .own 0 out2.length), (9, .sl 158 (List.map R158 y)), (10, .int .i64 (y.length : Int)), (11, .int .i64 i)], [some ⟨158, List.map R158 out2⟩]⟩) hl1 (ES [none]) fun n1 out2 i h=>?_
  unfold Q3 at h
  refine Tr<|R2 ZX Y<|Za<|Zr<|If h Y (fun h=>?_) fun h=>?_
  ·
   refine Zn<|Zr<|Zk<|K5 3 4 9 10 11 Y<|Tr<|Rm Y<|bE h fun x h_x h=>Rq Y (ZS (ov Y) (ov Y) QI h_x)<|Rq Y (ZF (ov Y) ZbL (Zm<|Ze ln0) ln0)<|Rx Y (ZO (row := (.int .i64 0) :: ((List.map C47 (Vector.replicate 64 0).toList) ++ ([]))) 1 Y Zgg (by kernel_rfl)<|by exact Eq.symm (Eq.trans (b := 65) ln0 tZ_158.symm))<|Ra Y<|Rx Y (Zf (ov Y) (ov Y) (Zp ZbL ln0) Y Y Y (Zt (Ze ln0) ln0) (Zb al6)<|ZC<|Eq.trans ln0<|Eq.symm ln0)<|Za<|K7 3 4 5 6 9 10 11 Y<|Td md0<|D1 0 Zc Y<|D2 1 QD Y<|D1 2 Zc Y<|Dq 3 Y (.guarded ((decide (i = 0)) == false) Y Y Y Y fun h => Zd (ov Y) Y Y Qc)<|Dq 4 Y (.guarded ((decide (i = 0)) == false) Y Y Y Y fun h => Zi (ow Y h) Y Y Y tS3<|Zj at2)<|Dq 5 Y (.guarded ((decide (i = 0)) == false) Y Y Y Y fun h => Zc<|ov Y)<|Dq 6 Y (.guarded ((decide (i = 0)) == false) Y Y Y Y fun h => Zc<|ov Y)<|Dq 7 Y (.guarded ((decide (i = 0)) == false) Y Y Y Y fun h => ZcY (ow Y h) (ov Y) Y)<|bE h fun x2 h_x2 h=>Dq 8 Y (.guarded ((decide (i = 0)) == false) Y Y Y Y fun h => ZS (ow Y h) (ow Y h) QI<|gdT h_x2 h)<|Dq 9 Y (.guarded ((decide (i = 0)) == false) Y Y Y Y fun h => ZB (ow Y h) Qc)<|Dq 10 Y (.guarded ((decide (i = 0)) == false) Y Y Y Y fun h => Zh (ow Y h) tS3<|Zj at2)<|Dq 11 Y (.guarded ((decide (i = 0)) == false) Y Y Y Y fun h => ZcY (ow Y h) (ow Y h) Y)<|Dq 12 Y (.guarded ((decide (i = 0)) == false) Y Y Y Y fun h => ZdJ (ow Y h)<|ov Y)<|Dq 13 Y (Zaj (ov Y) fun hp=>ow Y<|gF hp)<|D1 14 Zc Y<|Dq 15 Y (.guarded (((decide (i = 0)) || (decide (192 ≤ (i64 (x.At - x2.At))))) == true) Y Y Y Y fun h => Zc<|ov Y)<|Dq 16 Y (.guarded (((decide (i = 0)) || (decide (192 ≤ (i64 (x.At - x2.At))))) == true) Y Y Y Y fun h => Zc<|ov Y)<|Dq 17 Y (.guarded (((decide (i = 0)) || (decide (192 ≤ (i64 (x.At - x2.At))))) == true) Y Y Y Y fun h => Zfo (ZG (ow Y h) tZ_158) QI<|Zc7 _ _)<|Dq 18 Y (.guarded (((decide (i = 0)) || (decide (192 ≤ (i64 (x.At - x2.At))))) == true) Y Y Y Y fun h => ZcY (ow Y h) (ov Y) Y)<|Dq 19 Y (.guarded (((decide (i = 0)) || (decide (192 ≤ (i64 (x.At - x2.At))))) == true) Y Y Y Y fun h => QD (ow Y h)<|ow Y h)<|Dq 20 Y (.guarded (((decide (i = 0)) || (decide (192 ≤ (i64 (x.At - x2.At))))) == true) Y Y Y Y fun h => Zc<|ow Y h)<|Dq 21 Y (.guarded2 ((((decide (i = 0)) || (decide (192 ≤ (i64 (x.At - x2.At))))) == true) && ((decide (i = (i64 ((y.length : Int) - 1)))) == false)) Y Y Y Y fun h => Zc<|ov Y)<|Dq 22 Y (.guarded2 ((((decide (i = 0)) || (decide (192 ≤ (i64 (x.At - x2.At))))) == true) && ((decide (i = (i64 ((y.length : Int) - 1)))) == false)) Y Y Y Y fun h => Zc<|ov Y)<|Dq 23 Y (.guarded2 ((((decide (i = 0)) || (decide (192 ≤ (i64 (x.At - x2.At))))) == true) && ((decide (i = (i64 ((y.length : Int) - 1)))) == false)) Y Y Y Y fun h => Zli (ow Y h) (ov Y) Y)<|bE h fun x3 h_x3 h=>Dq 24 Y (.guarded2 ((((decide (i = 0)) || (decide (192 ≤ (i64 (x.At - x2.At))))) == true) && ((decide (i = (i64 ((y.length : Int) - 1)))) == false)) Y Y Y Y fun h => ZS (ow Y h) (ow Y h) QI<|gdT h_x3 h)<|Dq 25 Y (.guarded2 ((((decide (i = 0)) || (decide (192 ≤ (i64 (x.At - x2.At))))) == true) && ((decide (i = (i64 ((y.length : Int) - 1)))) == false)) Y Y Y Y fun h => ZB (ow Y h) Qc)<|Dq 26 Y (.guarded2 ((((decide (i = 0)) || (decide (192 ≤ (i64 (x.At - x2.At))))) == true) && ((decide (i = (i64 ((y.length : Int) - 1)))) == false)) Y Y Y Y fun h => Zh (ow Y h) tS3<|Zj at2)<|Dq 27 Y (.guarded2 ((((decide (i = 0)) || (decide (192 ≤ (i64 (x.At - x2.At))))) == true) && ((decide (i = (i64 ((y.length : Int) - 1)))) == false)) Y Y Y Y fun h => Zd (ov Y) Y Y Qc)<|Dq 28 Y (.guarded2 ((((decide (i = 0)) || (decide (192 ≤ (i64 (x.At - x2.At))))) == true) && ((decide (i = (i64 ((y.length : Int) - 1)))) == false)) Y Y Y Y fun h => Zi (ow Y h) Y Y Y tS3<|Zj at2)<|Dq 29 Y (.guarded2 ((((decide (i = 0)) || (decide (192 ≤ (i64 (x.At - x2.At))))) == true) && ((decide (i = (i64 ((y.length : Int) - 1)))) == false)) Y Y Y Y fun h => ZcY (ow Y h) (ow Y h) Y)<|Dq 30 Y (.guarded2 ((((decide (i = 0)) || (decide (192 ≤ (i64 (x.At - x2.At))))) == true) && ((decide (i = (i64 ((y.length : Int) - 1)))) == false)) Y Y Y Y fun h => ZdJ (ow Y h)<|ov Y)<|Dq 31 Y (.guarded (((decide (i = 0)) || (decide (192 ≤ (i64 (x.At - x2.At))))) == true) Y Y Y Y fun h => Zaj (ow Y h) fun hp=>ow Y<|gA h<|gF hp)<|Dq 32 Y (QU (ov Y) fun hp=>ow Y<|gT hp)<|Dd<|K7 3 4 6 9 10 11 48 Y<|If h Y (fun h=>?_) fun h=>?_
   ·
    exact K6 3 4 6 9 10 11 Y<|Zu<|Rm Y<|Rq Y (Zy (ov Y) Y Y Y ZbL (Zm<|Ze ln0) ln0 (hns := ns7))<|R_q (.sl 158<|List.map R158 ([x] : List api_Found)) Y (Xv QI (.cons (cva<|ov Y) ln0 (pwD al1) .nil) Y Y)<|bE h fun l h_l h=>Rx Y (Zv (ov Y) (ZG (ov Y) tZ_158) QI Y Y Y (fun x=>Zb<|Zqe x) Y h_l)<|Ra Y<|Za<|K5 3 4 9 10 11 Y<|Zu<|R2 ZZ Y<|Rm Y<|Za<|⟨_, h, ES [some 0]⟩
   ·
    exact Zn<|K5 3 4 9 10 11 Y<|Zu<|R2 ZZ Y<|Rm Y<|Za<|⟨_, h, ES [some 0]⟩
  ·
   refine ZL<|?_
   replace h := lx h ▸ ho1
   exact ⟨_, h, ES [some 0]⟩
 ·
  refine Tr<|Rm Y<|Ra Y<|Za<|?_
  obtain rfl := rt h
  exact Zz<|Zmb [some 0] Y (.cons (.tmp Y) .nil) (.cons Y (roM D158) .nil) Y Y<|.own _ Y
theorem ZdV {f : Vector Int 64} {r : Int × Bool} (h : Ji f = some r) :
 CSpec Tryz.prog gl0 154 [.agg (List.map C47 f.toList)] (.tuple [.int .i64 r.1, .bool r.2]) := by
 unfold Ji at h
 replace h := Qj h
 refine So Tryz.func154 Y fun w0 A=>Tr<|Rq Y (QK (cva<|ov Y) arL tZ_49<|arD fun _ => Y)<|Ra Y<|Ra Y<|Za<|Zr<|K1 1 Y<|Tr<|bE h fun x h_x h=>Rq Y (QA (ov Y) (ov Y) QL h_x)<|Rq Y (Zh (ov Y) QR<|Zj<|Z1 (o := 0) (o' := ((Int.toNat 1) * 1)) (Ze arL)<|ZN h_x)<|bE h fun y h_y h=>Rq Y (Zq (ZcL h_y)<|.cons (ov Y) (.b Y) .nil)<|R1 Jn Y<|Rm Y<|bE h fun x2 h_x2 h=>Rq Y (.guarded ((!y) == false) Y Y Y Y fun h => QA (ov Y) (ov Y) QL<|gdT h_x2 h)<|Rq Y (.guarded ((!y) == false) Y Y Y Y fun h => Zh (ow Y h) QR<|Zj<|Z1 (o := 0) (o' := ((Int.toNat 2) * 1)) (Ze arL)<|ZN<|gdT h_x2 h)<|bE h fun y2 h_y2 h=>Rq Y (.guarded ((!y) == false) Y Y Y Y fun h => Zq (ZcL<|gdT h_y2 h)<|.cons (ow Y h) (.b Y) .nil)<|Rq Y (.guarded ((!y) == false) Y Y Y Y fun h => Jn<|ow Y h)<|Rq Y (Zaj (ov Y) fun hp=>ow Y<|gF hp)<|Za<|K2 1 13 Y<|If h Y (fun h=>?_) fun h=>?_
 ·
  refine K0<|Tr<|Ra Y<|Ra Y<|Za<|?_
  obtain rfl := rt h
  exact Zz (ZP Y (.two (rb Y)<|rb Y))
 ·
  refine Zn<|K1 1 Y<|Tr<|bE h fun y3 h_y3 h=>Rq Y (Zq (ZcT h_y3)<|.cons (ov Y) (.b Y) .nil)<|Ra Y<|Ra Y<|Za<|?_
  obtain rfl := rt h
  exact Zz (ZP Y (.two (rb Y)<|rb Y))
theorem Zgx {h_ : List Int} {r : salvage_finder} (h : XI h_ = some r) :
 CSpec Tryz.prog gl0 105 [.sl 5 (List.map R5 h_)] (.rp [.sl 5 (List.map R5 r.h_), .sl 158 (List.map R158 r.certain), .sl 3 (List.map R3 r.numbers), .any] 0) := by
 unfold XI at h
 replace h := Qj h
 refine So Tryz.func105 Y fun w0 A=>Tr<|Ra Y<|Za<|K1 0 Y<|Tr<|Rm Y<|Rm Y<|bE h fun y h_y h=>Rx Y (Zd8 [] (ZgC h_y) (.cons (ov Y) (.dat Y) .nil) .nil Y (.lent 0 (.inr ⟨Nat.le_of_ble_eq_true Y, Y⟩) Y (roM D158) .nil) Y Y<|.own _<|.inr ⟨Nat.le_of_ble_eq_true Y, Y⟩)<|Rx Y (Zfh 1 Y ZD)<|Rq Y (ZeG (ys := [_, _, _, _]) Zrh ZqV ZrQ (.cons (cvs (ov Y)<|ZU Y)<|.cons (cvs (ov Y)<|ZU Y)<|.cons (cvs (ov Y)<|ZU Y) .nil) Y)<|Rx Y (Zkd 2 Y (ov Y) Zrw Y)<|Ra Y<|Za<|I2 (fun numbers at__=>⟨[(3, .ptr 0 1 0 0)], [some ⟨156, [[.sl 5 (List.map R5 h_), .own 1 y.length, .own 2 numbers.length, .mref 3 1]]⟩, some ⟨158, List.map R158 y⟩, some ⟨3, List.map R3 numbers⟩, some ⟨154, [[.mcon (List.map (QC FK3 FV3) at__)]]⟩]⟩) h (fun h=>?_) fun numbers at__ h=>?_
 ·
  refine K1 3 Y<|Tr<|Rm Y<|Rq Y (Zs (ov Y) Y Y)<|Rq Y (Zd (ov Y) Y Y ZbF)<|Rq Y (Zi (ov Y) Y Y Y Zd0 Y)<|Rq Y (Zaf (ov Y) Y Y QI)<|Rm Y<|Za<|Zk<|?_
  obtain ⟨r1, hl1, ho1⟩ := QP h
  refine L3 (fun numbers2 at__2 i=>⟨[(3, .ptr 0 1 0 0), (17, .own 1 y.length), (18, .int .i64 (y.length : Int)), (19, .int .i64 i)], [some ⟨156, [[.sl 5 (List.map R5 h_), .own 1 y.length, .own 2 numbers2.length, .mref 3 1]]⟩, some ⟨158, List.map R158 y⟩, some ⟨3, List.map R3 numbers2⟩, some ⟨154, [[.mcon (List.map (QC FK3 FV3) at__2)]]⟩]⟩) hl1 (ES [some 2, some 0, none, some 1] (hhp := .cons Y (ro1 (by exact tZ_156.symm)<|rlc (.dat Y)<|rlc (.own _ Y)<|rlc (.row Y)<|rlc (.mref _ Y) rln)<|.cons Y (roM D158)<|.row 3<|.cons Y (ZJ (fk := FK3) (fv := FV3) (m := ([] : List (Int × Int))) tZ_154 (fun _=>.dat Y) fun _=>.ren<|.dat Y) .nil)) fun n1 numbers2 at__2 i h=>?_
  unfold Q8 at h
  refine Tr<|R2 ZX Y<|Za<|Zr<|If h Y (fun h=>?_) fun h=>?_
  ·
   refine Zn<|I2 (fun numbers3 at__3=>⟨[(3, .ptr 0 1 0 0), (17, .own 1 y.length), (18, .int .i64 (y.length : Int)), (19, .int .i64 i)], [some ⟨156, [[.sl 5 (List.map R5 h_), .own 1 y.length, .own 2 numbers3.length, .mref 3 1]]⟩, some ⟨158, List.map R158 y⟩, some ⟨3, List.map R3 numbers3⟩, some ⟨154, [[.mcon (List.map (QC FK3 FV3) at__3)]]⟩]⟩) h (fun h=>?_) fun numbers3 at__3 h=>?_
   ·
    refine Zk<|K4 3 17 18 19 Y<|Tr<|Rm Y<|bE h fun x h_x h=>Rq Y (XQ (ov Y) (ov Y) QI Y Y h_x)<|Rq Y (Zgo (ov Y) Y Y h_x ZbL (Zm<|Ze ln0) ln0 (hns := ns7))<|Rx Y (ZO (row := (.int .i64 0) :: ((List.map C47 (Vector.replicate 64 0).toList) ++ ([]))) 4 Y Zgg (by kernel_rfl)<|by exact Eq.symm (Eq.trans (b := 65) ln0 tZ_158.symm))<|Ra Y<|Rx Y (Zf (ov Y) (ov Y) (Zp ZbL ln0) Y Y Y (Zt (Ze ln0) ln0) (Zb al6)<|ZC<|Eq.trans ln0<|Eq.symm ln0)<|Za<|K6 3 4 5 17 18 19 Y<|Tr<|Rq Y (Zd (ov Y) Y Y Zfx)<|Rq Y (Zy (ov Y) Y Y Y Z3 (Zm at4) arL (hns := (nsM fun _ => Y)))<|bE h fun y2 h_y2 h=>Rq Y (Zq (ZdV h_y2)<|.cons (ov Y) (.aggB<|arD fun _ => Y) .nil)<|Rm Y<|Rq Y (Zo (ov Y) Y)<|Rq Y (Zo (ov Y) Y)<|Ra Y<|Ra Y<|Za<|K7 3 4 5 6 17 18 19 Y<|J6 (cw := md0) (by kernel_rfl)<|D1 7 Zc Y<|Dq 8 Y (Zs (ov Y) Y Y)<|Dq 9 Y (Zd (ov Y) Y Y Ql)<|Dq 10 Y (Zi (ov Y) Y Y Y XN Y)<|D1 11 Zc Y<|Zjb 12 (.sl 3<|List.map R3 ([y2.1] : List Int)) Y (by kernel_rfl) Y Y (Xv Qq (.cons (cvs (ov Y)<|ZU Y) Y (.cons (.b Y) .nil) .nil) Y Y)<|Zai 0 _ Y (by kernel_rfl) Y Y (fun hp'=>Zc<|ov Y)<|Zai 1 _ Y (by kernel_rfl) Y Y (fun hp'=>Zc<|ov Y)<|Zai 14 _ Y (by kernel_rfl) Y Y (fun hp'=>Zc<|ov Y)<|bE h fun l h_l h=>ZfD [2, 5, 13] (by kernel_rfl)<|.q Y Y Y (Zs (ov Y) Y Y) ?_<|.q Y Y Y (Zd (ov Y) Y Y Qc) ?_<|.w Y Y Y (fun h=>by cases h) (fun h=>by cases h) (Zv (ov Y) (ZG (ov Y) tZ_3) Qq Y Y Y (fun _=>Zb Y) Y h_l) ?_ .nil
    ·
     refine ZfD [3, 5, 13] (by kernel_rfl)<|.q Y Y Y (Zd (ov Y) Y Y ZaN) ?_<|.q Y Y Y (Zd (ov Y) Y Y Qc) ?_<|.w Y Y Y (fun h=>by cases h) (fun h=>by cases h) (Zv (ov Y) (ZG (ov Y) tZ_3) Qq Y Y Y (fun _=>Zb Y) Y h_l) ?_ .nil
     ·
      refine ZfD [4, 5, 13] (by kernel_rfl)<|.q Y Y Y (Zi (ov Y) Y Y Y JZ Y) ?_<|.q Y Y Y (Zd (ov Y) Y Y Qc) ?_<|.w Y Y Y (fun h=>by cases h) (fun h=>by cases h) (Zv (ov Y) (ZG (ov Y) tZ_3) Qq Y Y Y (fun _=>Zb Y) Y h_l) ?_ .nil
      ·
       refine Dw 5 13 Y (Zd (ov Y) Y Y Qc) (Zv (ov Y) (ZG (ov Y) tZ_3) Qq Y Y Y (fun _=>Zb Y) Y h_l) ?_ ?_
       ·
        refine Dw 6 13 Y (Zi (ov Y) Y Y Y tS3<|Zj at2) (Zv (ov Y) (ZG (ov Y) tZ_3) Qq Y Y Y (fun _=>Zb Y) Y h_l) ?_ ?_
        ·
         exact Do 13 Y (Zv (ov Y) (ZG (ov Y) tZ_3) Qq Y Y Y (fun _=>Zb Y) Y h_l)<|Dq 15 Y (Zs (ov Y) Y Y)<|Dq 16 Y (Zd (ov Y) Y Y Ql)<|Do 17 Y (Zf (ov Y) (ov Y) (Zg XN) Y Y Y (Nat.le_of_ble_eq_true Y) (Zb Y) Y)<|Do 18 Y (ZE (m := at__2) (fk := FK3) (fv := FV3) (k := x.At) (z0 := 0) (ov Y) (ov Y) ZD Qk Y (fun _=>.b Y)<|Zw X4 Y)<|Dq 19 Y (Zo (ov Y) Y)<|Do 20 Y (Zx (m := at__2) (fk := FK3) (fv := FV3) (k := x.At) (v := i) (ov Y) (ov Y) (ov Y) ZD Y)<|Dd<|⟨_, h, ES [some 0, some 1, some 2, some 3] (hhp := .cons Y (ro1 (by exact tZ_156.symm)<|rlc (.dat Y)<|rlc (.own _ Y)<|rlc (.own _ Y)<|rlc (.mref _ Y) rln)<|.cons Y (roM D158)<|.cons Y (roM D3)<|.cons Y (ZJ (fk := FK3) (fv := FV3) (m := (Z0 kqI at__2 x.At i)) tZ_154 (fun _=>.dat Y) fun _=>.ren<|.dat Y) .nil)⟩
        ·
         refine Dq 15 Y (Zs (ov Y) Y Y)<|Dq 16 Y (Zd (ov Y) Y Y Ql)<|Dw 6 17 Y (Zi (ov Y) Y Y Y tS3<|Zj at2) (Zf (ov Y) (ov Y) (Zg XN) Y Y Y (Nat.le_of_ble_eq_true Y) (Zb Y) Y) ?_ ?_
         ·
          exact Do 17 Y (Zf (ov Y) (ov Y) (Zg XN) Y Y Y (Nat.le_of_ble_eq_true Y) (Zb Y) Y)<|Do 18 Y (ZE (m := at__2) (fk := FK3) (fv := FV3) (k := x.At) (z0 := 0) (ov Y) (ov Y) ZD Qk Y (fun _=>.b Y)<|Zw X4 Y)<|Dq 19 Y (Zo (ov Y) Y)<|Do 20 Y (Zx (m := at__2) (fk := FK3) (fv := FV3) (k := x.At) (v := i) (ov Y) (ov Y) (ov Y) ZD Y)<|Dd<|⟨_, h, ES [some 0, some 1, some 2, some 3] (hhp := .cons Y (ro1 (by exact tZ_156.symm)<|rlc (.dat Y)<|rlc (.own _ Y)<|rlc (.own _ Y)<|rlc (.mref _ Y) rln)<|.cons Y (roM D158)<|.cons Y (roM D3)<|.cons Y (ZJ (fk := FK3) (fv := FV3) (m := (Z0 kqI at__2 x.At i)) tZ_154 (fun _=>.dat Y) fun _=>.ren<|.dat Y) .nil)⟩
         ·
          exact Dq 6 Y (Zi (ov Y) Y Y Y tS3<|Zj at2)<|Do 18 Y (ZE (m := at__2) (fk := FK3) (fv := FV3) (k := x.At) (z0 := 0) (ov Y) (ov Y) ZD Qk Y (fun _=>.b Y)<|Zw X4 Y)<|Dq 19 Y (Zo (ov Y) Y)<|Do 20 Y (Zx (m := at__2) (fk := FK3) (fv := FV3) (k := x.At) (v := i) (ov Y) (ov Y) (ov Y) ZD Y)<|Dd<|⟨_, h, ES [some 0, some 1, some 2, some 3] (hhp := .cons Y (ro1 (by exact tZ_156.symm)<|rlc (.dat Y)<|rlc (.own _ Y)<|rlc (.own _ Y)<|rlc (.mref _ Y) rln)<|.cons Y (roM D158)<|.cons Y (roM D3)<|.cons Y (ZJ (fk := FK3) (fv := FV3) (m := (Z0 kqI at__2 x.At i)) tZ_154 (fun _=>.dat Y) fun _=>.ren<|.dat Y) .nil)⟩
       ·
        refine Dq 15 Y (Zs (ov Y) Y Y)<|Dq 16 Y (Zd (ov Y) Y Y Ql)<|Dw 5 17 Y (Zd (ov Y) Y Y Qc) (Zf (ov Y) (ov Y) (Zg XN) Y Y Y (Nat.le_of_ble_eq_true Y) (Zb Y) Y) ?_ ?_
        ·
         refine Dw 6 17 Y (Zi (ov Y) Y Y Y tS3<|Zj at2) (Zf (ov Y) (ov Y) (Zg XN) Y Y Y (Nat.le_of_ble_eq_true Y) (Zb Y) Y) ?_ ?_
         ·
          exact Do 17 Y (Zf (ov Y) (ov Y) (Zg XN) Y Y Y (Nat.le_of_ble_eq_true Y) (Zb Y) Y)<|Do 18 Y (ZE (m := at__2) (fk := FK3) (fv := FV3) (k := x.At) (z0 := 0) (ov Y) (ov Y) ZD Qk Y (fun _=>.b Y)<|Zw X4 Y)<|Dq 19 Y (Zo (ov Y) Y)<|Do 20 Y (Zx (m := at__2) (fk := FK3) (fv := FV3) (k := x.At) (v := i) (ov Y) (ov Y) (ov Y) ZD Y)<|Dd<|⟨_, h, ES [some 0, some 1, some 2, some 3] (hhp := .cons Y (ro1 (by exact tZ_156.symm)<|rlc (.dat Y)<|rlc (.own _ Y)<|rlc (.own _ Y)<|rlc (.mref _ Y) rln)<|.cons Y (roM D158)<|.cons Y (roM D3)<|.cons Y (ZJ (fk := FK3) (fv := FV3) (m := (Z0 kqI at__2 x.At i)) tZ_154 (fun _=>.dat Y) fun _=>.ren<|.dat Y) .nil)⟩
         ·
          exact Dq 6 Y (Zi (ov Y) Y Y Y tS3<|Zj at2)<|Do 18 Y (ZE (m := at__2) (fk := FK3) (fv := FV3) (k := x.At) (z0 := 0) (ov Y) (ov Y) ZD Qk Y (fun _=>.b Y)<|Zw X4 Y)<|Dq 19 Y (Zo (ov Y) Y)<|Do 20 Y (Zx (m := at__2) (fk := FK3) (fv := FV3) (k := x.At) (v := i) (ov Y) (ov Y) (ov Y) ZD Y)<|Dd<|⟨_, h, ES [some 0, some 1, some 2, some 3] (hhp := .cons Y (ro1 (by exact tZ_156.symm)<|rlc (.dat Y)<|rlc (.own _ Y)<|rlc (.own _ Y)<|rlc (.mref _ Y) rln)<|.cons Y (roM D158)<|.cons Y (roM D3)<|.cons Y (ZJ (fk := FK3) (fv := FV3) (m := (Z0 kqI at__2 x.At i)) tZ_154 (fun _=>.dat Y) fun _=>.ren<|.dat Y) .nil)⟩
        ·
         exact Dq 5 Y (Zd (ov Y) Y Y Qc)<|Dq 6 Y (Zi (ov Y) Y Y Y tS3<|Zj at2)<|Do 18 Y (ZE (m := at__2) (fk := FK3) (fv := FV3) (k := x.At) (z0 := 0) (ov Y) (ov Y) ZD Qk Y (fun _=>.b Y)<|Zw X4 Y)<|Dq 19 Y (Zo (ov Y) Y)<|Do 20 Y (Zx (m := at__2) (fk := FK3) (fv := FV3) (k := x.At) (v := i) (ov Y) (ov Y) (ov Y) ZD Y)<|Dd<|⟨_, h, ES [some 0, some 1, some 2, some 3] (hhp := .cons Y (ro1 (by exact tZ_156.symm)<|rlc (.dat Y)<|rlc (.own _ Y)<|rlc (.own _ Y)<|rlc (.mref _ Y) rln)<|.cons Y (roM D158)<|.cons Y (roM D3)<|.cons Y (ZJ (fk := FK3) (fv := FV3) (m := (Z0 kqI at__2 x.At i)) tZ_154 (fun _=>.dat Y) fun _=>.ren<|.dat Y) .nil)⟩
      ·
       refine ZfD [4, 6, 13] (by kernel_rfl)<|.q Y Y Y (Zi (ov Y) Y Y Y JZ Y) ?_<|.q Y Y Y (Zi (ov Y) Y Y Y tS3<|Zj at2) ?_<|.w Y Y Y (fun h=>by cases h) (fun h=>by cases h) (Zv (ov Y) (ZG (ov Y) tZ_3) Qq Y Y Y (fun _=>Zb Y) Y h_l) ?_ .nil
       ·
        refine Dw 6 13 Y (Zi (ov Y) Y Y Y tS3<|Zj at2) (Zv (ov Y) (ZG (ov Y) tZ_3) Qq Y Y Y (fun _=>Zb Y) Y h_l) ?_ ?_
        ·
         exact Do 13 Y (Zv (ov Y) (ZG (ov Y) tZ_3) Qq Y Y Y (fun _=>Zb Y) Y h_l)<|Dq 15 Y (Zs (ov Y) Y Y)<|Dq 16 Y (Zd (ov Y) Y Y Ql)<|Do 17 Y (Zf (ov Y) (ov Y) (Zg XN) Y Y Y (Nat.le_of_ble_eq_true Y) (Zb Y) Y)<|Do 18 Y (ZE (m := at__2) (fk := FK3) (fv := FV3) (k := x.At) (z0 := 0) (ov Y) (ov Y) ZD Qk Y (fun _=>.b Y)<|Zw X4 Y)<|Dq 19 Y (Zo (ov Y) Y)<|Do 20 Y (Zx (m := at__2) (fk := FK3) (fv := FV3) (k := x.At) (v := i) (ov Y) (ov Y) (ov Y) ZD Y)<|Dd<|⟨_, h, ES [some 0, some 1, some 2, some 3] (hhp := .cons Y (ro1 (by exact tZ_156.symm)<|rlc (.dat Y)<|rlc (.own _ Y)<|rlc (.own _ Y)<|rlc (.mref _ Y) rln)<|.cons Y (roM D158)<|.cons Y (roM D3)<|.cons Y (ZJ (fk := FK3) (fv := FV3) (m := (Z0 kqI at__2 x.At i)) tZ_154 (fun _=>.dat Y) fun _=>.ren<|.dat Y) .nil)⟩
        ·
         refine Dq 15 Y (Zs (ov Y) Y Y)<|Dq 16 Y (Zd (ov Y) Y Y Ql)<|Dw 6 17 Y (Zi (ov Y) Y Y Y tS3<|Zj at2) (Zf (ov Y) (ov Y) (Zg XN) Y Y Y (Nat.le_of_ble_eq_true Y) (Zb Y) Y) ?_ ?_
         ·
          exact Do 17 Y (Zf (ov Y) (ov Y) (Zg XN) Y Y Y (Nat.le_of_ble_eq_true Y) (Zb Y) Y)<|Do 18 Y (ZE (m := at__2) (fk := FK3) (fv := FV3) (k := x.At) (z0 := 0) (ov Y) (ov Y) ZD Qk Y (fun _=>.b Y)<|Zw X4 Y)<|Dq 19 Y (Zo (ov Y) Y)<|Do 20 Y (Zx (m := at__2) (fk := FK3) (fv := FV3) (k := x.At) (v := i) (ov Y) (ov Y) (ov Y) ZD Y)<|Dd<|⟨_, h, ES [some 0, some 1, some 2, some 3] (hhp := .cons Y (ro1 (by exact tZ_156.symm)<|rlc (.dat Y)<|rlc (.own _ Y)<|rlc (.own _ Y)<|rlc (.mref _ Y) rln)<|.cons Y (roM D158)<|.cons Y (roM D3)<|.cons Y (ZJ (fk := FK3) (fv := FV3) (m := (Z0 kqI at__2 x.At i)) tZ_154 (fun _=>.dat Y) fun _=>.ren<|.dat Y) .nil)⟩
         ·
          exact Dq 6 Y (Zi (ov Y) Y Y Y tS3<|Zj at2)<|Do 18 Y (ZE (m := at__2) (fk := FK3) (fv := FV3) (k := x.At) (z0 := 0) (ov Y) (ov Y) ZD Qk Y (fun _=>.b Y)<|Zw X4 Y)<|Dq 19 Y (Zo (ov Y) Y)<|Do 20 Y (Zx (m := at__2) (fk := FK3) (fv := FV3) (k := x.At) (v := i) (ov Y) (ov Y) (ov Y) ZD Y)<|Dd<|⟨_, h, ES [some 0, some 1, some 2, some 3] (hhp := .cons Y (ro1 (by exact tZ_156.symm)<|rlc (.dat Y)<|rlc (.own _ Y)<|rlc (.own _ Y)<|rlc (.mref _ Y) rln)<|.cons Y (roM D158)<|.cons Y (roM D3)<|.cons Y (ZJ (fk := FK3) (fv := FV3) (m := (Z0 kqI at__2 x.At i)) tZ_154 (fun _=>.dat Y) fun _=>.ren<|.dat Y) .nil)⟩
       ·
        refine Dw 4 13 Y (Zi (ov Y) Y Y Y JZ Y) (Zv (ov Y) (ZG (ov Y) tZ_3) Qq Y Y Y (fun _=>Zb Y) Y h_l) ?_ ?_
        ·
         exact Do 13 Y (Zv (ov Y) (ZG (ov Y) tZ_3) Qq Y Y Y (fun _=>Zb Y) Y h_l)<|Dq 15 Y (Zs (ov Y) Y Y)<|Dq 16 Y (Zd (ov Y) Y Y Ql)<|Do 17 Y (Zf (ov Y) (ov Y) (Zg XN) Y Y Y (Nat.le_of_ble_eq_true Y) (Zb Y) Y)<|Do 18 Y (ZE (m := at__2) (fk := FK3) (fv := FV3) (k := x.At) (z0 := 0) (ov Y) (ov Y) ZD Qk Y (fun _=>.b Y)<|Zw X4 Y)<|Dq 19 Y (Zo (ov Y) Y)<|Do 20 Y (Zx (m := at__2) (fk := FK3) (fv := FV3) (k := x.At) (v := i) (ov Y) (ov Y) (ov Y) ZD Y)<|Dd<|⟨_, h, ES [some 0, some 1, some 2, some 3] (hhp := .cons Y (ro1 (by exact tZ_156.symm)<|rlc (.dat Y)<|rlc (.own _ Y)<|rlc (.own _ Y)<|rlc (.mref _ Y) rln)<|.cons Y (roM D158)<|.cons Y (roM D3)<|.cons Y (ZJ (fk := FK3) (fv := FV3) (m := (Z0 kqI at__2 x.At i)) tZ_154 (fun _=>.dat Y) fun _=>.ren<|.dat Y) .nil)⟩
        ·
         exact Dq 4 Y (Zi (ov Y) Y Y Y JZ Y)<|Dq 15 Y (Zs (ov Y) Y Y)<|Dq 16 Y (Zd (ov Y) Y Y Ql)<|Do 17 Y (Zf (ov Y) (ov Y) (Zg XN) Y Y Y (Nat.le_of_ble_eq_true Y) (Zb Y) Y)<|Do 18 Y (ZE (m := at__2) (fk := FK3) (fv := FV3) (k := x.At) (z0 := 0) (ov Y) (ov Y) ZD Qk Y (fun _=>.b Y)<|Zw X4 Y)<|Dq 19 Y (Zo (ov Y) Y)<|Do 20 Y (Zx (m := at__2) (fk := FK3) (fv := FV3) (k := x.At) (v := i) (ov Y) (ov Y) (ov Y) ZD Y)<|Dd<|⟨_, h, ES [some 0, some 1, some 2, some 3] (hhp := .cons Y (ro1 (by exact tZ_156.symm)<|rlc (.dat Y)<|rlc (.own _ Y)<|rlc (.own _ Y)<|rlc (.mref _ Y) rln)<|.cons Y (roM D158)<|.cons Y (roM D3)<|.cons Y (ZJ (fk := FK3) (fv := FV3) (m := (Z0 kqI at__2 x.At i)) tZ_154 (fun _=>.dat Y) fun _=>.ren<|.dat Y) .nil)⟩
       ·
        refine Dq 4 Y (Zi (ov Y) Y Y Y JZ Y)<|Dq 15 Y (Zs (ov Y) Y Y)<|Dq 16 Y (Zd (ov Y) Y Y Ql)<|Dw 6 17 Y (Zi (ov Y) Y Y Y tS3<|Zj at2) (Zf (ov Y) (ov Y) (Zg XN) Y Y Y (Nat.le_of_ble_eq_true Y) (Zb Y) Y) ?_ ?_
        ·
         exact Do 17 Y (Zf (ov Y) (ov Y) (Zg XN) Y Y Y (Nat.le_of_ble_eq_true Y) (Zb Y) Y)<|Do 18 Y (ZE (m := at__2) (fk := FK3) (fv := FV3) (k := x.At) (z0 := 0) (ov Y) (ov Y) ZD Qk Y (fun _=>.b Y)<|Zw X4 Y)<|Dq 19 Y (Zo (ov Y) Y)<|Do 20 Y (Zx (m := at__2) (fk := FK3) (fv := FV3) (k := x.At) (v := i) (ov Y) (ov Y) (ov Y) ZD Y)<|Dd<|⟨_, h, ES [some 0, some 1, some 2, some 3] (hhp := .cons Y (ro1 (by exact tZ_156.symm)<|rlc (.dat Y)<|rlc (.own _ Y)<|rlc (.own _ Y)<|rlc (.mref _ Y) rln)<|.cons Y (roM D158)<|.cons Y (roM D3)<|.cons Y (ZJ (fk := FK3) (fv := FV3) (m := (Z0 kqI at__2 x.At i)) tZ_154 (fun _=>.dat Y) fun _=>.ren<|.dat Y) .nil)⟩
        ·
         exact Dq 6 Y (Zi (ov Y) Y Y Y tS3<|Zj at2)<|Do 18 Y (ZE (m := at__2) (fk := FK3) (fv := FV3) (k := x.At) (z0 := 0) (ov Y) (ov Y) ZD Qk Y (fun _=>.b Y)<|Zw X4 Y)<|Dq 19 Y (Zo (ov Y) Y)<|Do 20 Y (Zx (m := at__2) (fk := FK3) (fv := FV3) (k := x.At) (v := i) (ov Y) (ov Y) (ov Y) ZD Y)<|Dd<|⟨_, h, ES [some 0, some 1, some 2, some 3] (hhp := .cons Y (ro1 (by exact tZ_156.symm)<|rlc (.dat Y)<|rlc (.own _ Y)<|rlc (.own _ Y)<|rlc (.mref _ Y) rln)<|.cons Y (roM D158)<|.cons Y (roM D3)<|.cons Y (ZJ (fk := FK3) (fv := FV3) (m := (Z0 kqI at__2 x.At i)) tZ_154 (fun _=>.dat Y) fun _=>.ren<|.dat Y) .nil)⟩
      ·
       refine Dq 4 Y (Zi (ov Y) Y Y Y JZ Y)<|Dq 15 Y (Zs (ov Y) Y Y)<|Dq 16 Y (Zd (ov Y) Y Y Ql)<|Dw 5 17 Y (Zd (ov Y) Y Y Qc) (Zf (ov Y) (ov Y) (Zg XN) Y Y Y (Nat.le_of_ble_eq_true Y) (Zb Y) Y) ?_ ?_
       ·
        refine Dw 6 17 Y (Zi (ov Y) Y Y Y tS3<|Zj at2) (Zf (ov Y) (ov Y) (Zg XN) Y Y Y (Nat.le_of_ble_eq_true Y) (Zb Y) Y) ?_ ?_
        ·
         exact Do 17 Y (Zf (ov Y) (ov Y) (Zg XN) Y Y Y (Nat.le_of_ble_eq_true Y) (Zb Y) Y)<|Do 18 Y (ZE (m := at__2) (fk := FK3) (fv := FV3) (k := x.At) (z0 := 0) (ov Y) (ov Y) ZD Qk Y (fun _=>.b Y)<|Zw X4 Y)<|Dq 19 Y (Zo (ov Y) Y)<|Do 20 Y (Zx (m := at__2) (fk := FK3) (fv := FV3) (k := x.At) (v := i) (ov Y) (ov Y) (ov Y) ZD Y)<|Dd<|⟨_, h, ES [some 0, some 1, some 2, some 3] (hhp := .cons Y (ro1 (by exact tZ_156.symm)<|rlc (.dat Y)<|rlc (.own _ Y)<|rlc (.own _ Y)<|rlc (.mref _ Y) rln)<|.cons Y (roM D158)<|.cons Y (roM D3)<|.cons Y (ZJ (fk := FK3) (fv := FV3) (m := (Z0 kqI at__2 x.At i)) tZ_154 (fun _=>.dat Y) fun _=>.ren<|.dat Y) .nil)⟩
        ·
         exact Dq 6 Y (Zi (ov Y) Y Y Y tS3<|Zj at2)<|Do 18 Y (ZE (m := at__2) (fk := FK3) (fv := FV3) (k := x.At) (z0 := 0) (ov Y) (ov Y) ZD Qk Y (fun _=>.b Y)<|Zw X4 Y)<|Dq 19 Y (Zo (ov Y) Y)<|Do 20 Y (Zx (m := at__2) (fk := FK3) (fv := FV3) (k := x.At) (v := i) (ov Y) (ov Y) (ov Y) ZD Y)<|Dd<|⟨_, h, ES [some 0, some 1, some 2, some 3] (hhp := .cons Y (ro1 (by exact tZ_156.symm)<|rlc (.dat Y)<|rlc (.own _ Y)<|rlc (.own _ Y)<|rlc (.mref _ Y) rln)<|.cons Y (roM D158)<|.cons Y (roM D3)<|.cons Y (ZJ (fk := FK3) (fv := FV3) (m := (Z0 kqI at__2 x.At i)) tZ_154 (fun _=>.dat Y) fun _=>.ren<|.dat Y) .nil)⟩
       ·
        exact Dq 5 Y (Zd (ov Y) Y Y Qc)<|Dq 6 Y (Zi (ov Y) Y Y Y tS3<|Zj at2)<|Do 18 Y (ZE (m := at__2) (fk := FK3) (fv := FV3) (k := x.At) (z0 := 0) (ov Y) (ov Y) ZD Qk Y (fun _=>.b Y)<|Zw X4 Y)<|Dq 19 Y (Zo (ov Y) Y)<|Do 20 Y (Zx (m := at__2) (fk := FK3) (fv := FV3) (k := x.At) (v := i) (ov Y) (ov Y) (ov Y) ZD Y)<|Dd<|⟨_, h, ES [some 0, some 1, some 2, some 3] (hhp := .cons Y (ro1 (by exact tZ_156.symm)<|rlc (.dat Y)<|rlc (.own _ Y)<|rlc (.own _ Y)<|rlc (.mref _ Y) rln)<|.cons Y (roM D158)<|.cons Y (roM D3)<|.cons Y (ZJ (fk := FK3) (fv := FV3) (m := (Z0 kqI at__2 x.At i)) tZ_154 (fun _=>.dat Y) fun _=>.ren<|.dat Y) .nil)⟩
     ·
      refine ZfD [3, 6, 13] (by kernel_rfl)<|.q Y Y Y (Zd (ov Y) Y Y ZaN) ?_<|.q Y Y Y (Zi (ov Y) Y Y Y tS3<|Zj at2) ?_<|.w Y Y Y (fun h=>by cases h) (fun h=>by cases h) (Zv (ov Y) (ZG (ov Y) tZ_3) Qq Y Y Y (fun _=>Zb Y) Y h_l) ?_ .nil
      ·
       refine ZfD [4, 6, 13] (by kernel_rfl)<|.q Y Y Y (Zi (ov Y) Y Y Y JZ Y) ?_<|.q Y Y Y (Zi (ov Y) Y Y Y tS3<|Zj at2) ?_<|.w Y Y Y (fun h=>by cases h) (fun h=>by cases h) (Zv (ov Y) (ZG (ov Y) tZ_3) Qq Y Y Y (fun _=>Zb Y) Y h_l) ?_ .nil
       ·
        refine Dw 6 13 Y (Zi (ov Y) Y Y Y tS3<|Zj at2) (Zv (ov Y) (ZG (ov Y) tZ_3) Qq Y Y Y (fun _=>Zb Y) Y h_l) ?_ ?_
        ·
         exact Do 13 Y (Zv (ov Y) (ZG (ov Y) tZ_3) Qq Y Y Y (fun _=>Zb Y) Y h_l)<|Dq 15 Y (Zs (ov Y) Y Y)<|Dq 16 Y (Zd (ov Y) Y Y Ql)<|Do 17 Y (Zf (ov Y) (ov Y) (Zg XN) Y Y Y (Nat.le_of_ble_eq_true Y) (Zb Y) Y)<|Do 18 Y (ZE (m := at__2) (fk := FK3) (fv := FV3) (k := x.At) (z0 := 0) (ov Y) (ov Y) ZD Qk Y (fun _=>.b Y)<|Zw X4 Y)<|Dq 19 Y (Zo (ov Y) Y)<|Do 20 Y (Zx (m := at__2) (fk := FK3) (fv := FV3) (k := x.At) (v := i) (ov Y) (ov Y) (ov Y) ZD Y)<|Dd<|⟨_, h, ES [some 0, some 1, some 2, some 3] (hhp := .cons Y (ro1 (by exact tZ_156.symm)<|rlc (.dat Y)<|rlc (.own _ Y)<|rlc (.own _ Y)<|rlc (.mref _ Y) rln)<|.cons Y (roM D158)<|.cons Y (roM D3)<|.cons Y (ZJ (fk := FK3) (fv := FV3) (m := (Z0 kqI at__2 x.At i)) tZ_154 (fun _=>.dat Y) fun _=>.ren<|.dat Y) .nil)⟩
        ·
         refine Dq 15 Y (Zs (ov Y) Y Y)<|Dq 16 Y (Zd (ov Y) Y Y Ql)<|Dw 6 17 Y (Zi (ov Y) Y Y Y tS3<|Zj at2) (Zf (ov Y) (ov Y) (Zg XN) Y Y Y (Nat.le_of_ble_eq_true Y) (Zb Y) Y) ?_ ?_
         ·
          exact Do 17 Y (Zf (ov Y) (ov Y) (Zg XN) Y Y Y (Nat.le_of_ble_eq_true Y) (Zb Y) Y)<|Do 18 Y (ZE (m := at__2) (fk := FK3) (fv := FV3) (k := x.At) (z0 := 0) (ov Y) (ov Y) ZD Qk Y (fun _=>.b Y)<|Zw X4 Y)<|Dq 19 Y (Zo (ov Y) Y)<|Do 20 Y (Zx (m := at__2) (fk := FK3) (fv := FV3) (k := x.At) (v := i) (ov Y) (ov Y) (ov Y) ZD Y)<|Dd<|⟨_, h, ES [some 0, some 1, some 2, some 3] (hhp := .cons Y (ro1 (by exact tZ_156.symm)<|rlc (.dat Y)<|rlc (.own _ Y)<|rlc (.own _ Y)<|rlc (.mref _ Y) rln)<|.cons Y (roM D158)<|.cons Y (roM D3)<|.cons Y (ZJ (fk := FK3) (fv := FV3) (m := (Z0 kqI at__2 x.At i)) tZ_154 (fun _=>.dat Y) fun _=>.ren<|.dat Y) .nil)⟩
         ·
          exact Dq 6 Y (Zi (ov Y) Y Y Y tS3<|Zj at2)<|Do 18 Y (ZE (m := at__2) (fk := FK3) (fv := FV3) (k := x.At) (z0 := 0) (ov Y) (ov Y) ZD Qk Y (fun _=>.b Y)<|Zw X4 Y)<|Dq 19 Y (Zo (ov Y) Y)<|Do 20 Y (Zx (m := at__2) (fk := FK3) (fv := FV3) (k := x.At) (v := i) (ov Y) (ov Y) (ov Y) ZD Y)<|Dd<|⟨_, h, ES [some 0, some 1, some 2, some 3] (hhp := .cons Y (ro1 (by exact tZ_156.symm)<|rlc (.dat Y)<|rlc (.own _ Y)<|rlc (.own _ Y)<|rlc (.mref _ Y) rln)<|.cons Y (roM D158)<|.cons Y (roM D3)<|.cons Y (ZJ (fk := FK3) (fv := FV3) (m := (Z0 kqI at__2 x.At i)) tZ_154 (fun _=>.dat Y) fun _=>.ren<|.dat Y) .nil)⟩
       ·
        refine Dw 4 13 Y (Zi (ov Y) Y Y Y JZ Y) (Zv (ov Y) (ZG (ov Y) tZ_3) Qq Y Y Y (fun _=>Zb Y) Y h_l) ?_ ?_
        ·
         exact Do 13 Y (Zv (ov Y) (ZG (ov Y) tZ_3) Qq Y Y Y (fun _=>Zb Y) Y h_l)<|Dq 15 Y (Zs (ov Y) Y Y)<|Dq 16 Y (Zd (ov Y) Y Y Ql)<|Do 17 Y (Zf (ov Y) (ov Y) (Zg XN) Y Y Y (Nat.le_of_ble_eq_true Y) (Zb Y) Y)<|Do 18 Y (ZE (m := at__2) (fk := FK3) (fv := FV3) (k := x.At) (z0 := 0) (ov Y) (ov Y) ZD Qk Y (fun _=>.b Y)<|Zw X4 Y)<|Dq 19 Y (Zo (ov Y) Y)<|Do 20 Y (Zx (m := at__2) (fk := FK3) (fv := FV3) (k := x.At) (v := i) (ov Y) (ov Y) (ov Y) ZD Y)<|Dd<|⟨_, h, ES [some 0, some 1, some 2, some 3] (hhp := .cons Y (ro1 (by exact tZ_156.symm)<|rlc (.dat Y)<|rlc (.own _ Y)<|rlc (.own _ Y)<|rlc (.mref _ Y) rln)<|.cons Y (roM D158)<|.cons Y (roM D3)<|.cons Y (ZJ (fk := FK3) (fv := FV3) (m := (Z0 kqI at__2 x.At i)) tZ_154 (fun _=>.dat Y) fun _=>.ren<|.dat Y) .nil)⟩
        ·
         exact Dq 4 Y (Zi (ov Y) Y Y Y JZ Y)<|Dq 15 Y (Zs (ov Y) Y Y)<|Dq 16 Y (Zd (ov Y) Y Y Ql)<|Do 17 Y (Zf (ov Y) (ov Y) (Zg XN) Y Y Y (Nat.le_of_ble_eq_true Y) (Zb Y) Y)<|Do 18 Y (ZE (m := at__2) (fk := FK3) (fv := FV3) (k := x.At) (z0 := 0) (ov Y) (ov Y) ZD Qk Y (fun _=>.b Y)<|Zw X4 Y)<|Dq 19 Y (Zo (ov Y) Y)<|Do 20 Y (Zx (m := at__2) (fk := FK3) (fv := FV3) (k := x.At) (v := i) (ov Y) (ov Y) (ov Y) ZD Y)<|Dd<|⟨_, h, ES [some 0, some 1, some 2, some 3] (hhp := .cons Y (ro1 (by exact tZ_156.symm)<|rlc (.dat Y)<|rlc (.own _ Y)<|rlc (.own _ Y)<|rlc (.mref _ Y) rln)<|.cons Y (roM D158)<|.cons Y (roM D3)<|.cons Y (ZJ (fk := FK3) (fv := FV3) (m := (Z0 kqI at__2 x.At i)) tZ_154 (fun _=>.dat Y) fun _=>.ren<|.dat Y) .nil)⟩
       ·
        refine Dq 4 Y (Zi (ov Y) Y Y Y JZ Y)<|Dq 15 Y (Zs (ov Y) Y Y)<|Dq 16 Y (Zd (ov Y) Y Y Ql)<|Dw 6 17 Y (Zi (ov Y) Y Y Y tS3<|Zj at2) (Zf (ov Y) (ov Y) (Zg XN) Y Y Y (Nat.le_of_ble_eq_true Y) (Zb Y) Y) ?_ ?_
        ·
         exact Do 17 Y (Zf (ov Y) (ov Y) (Zg XN) Y Y Y (Nat.le_of_ble_eq_true Y) (Zb Y) Y)<|Do 18 Y (ZE (m := at__2) (fk := FK3) (fv := FV3) (k := x.At) (z0 := 0) (ov Y) (ov Y) ZD Qk Y (fun _=>.b Y)<|Zw X4 Y)<|Dq 19 Y (Zo (ov Y) Y)<|Do 20 Y (Zx (m := at__2) (fk := FK3) (fv := FV3) (k := x.At) (v := i) (ov Y) (ov Y) (ov Y) ZD Y)<|Dd<|⟨_, h, ES [some 0, some 1, some 2, some 3] (hhp := .cons Y (ro1 (by exact tZ_156.symm)<|rlc (.dat Y)<|rlc (.own _ Y)<|rlc (.own _ Y)<|rlc (.mref _ Y) rln)<|.cons Y (roM D158)<|.cons Y (roM D3)<|.cons Y (ZJ (fk := FK3) (fv := FV3) (m := (Z0 kqI at__2 x.At i)) tZ_154 (fun _=>.dat Y) fun _=>.ren<|.dat Y) .nil)⟩
        ·
         exact Dq 6 Y (Zi (ov Y) Y Y Y tS3<|Zj at2)<|Do 18 Y (ZE (m := at__2) (fk := FK3) (fv := FV3) (k := x.At) (z0 := 0) (ov Y) (ov Y) ZD Qk Y (fun _=>.b Y)<|Zw X4 Y)<|Dq 19 Y (Zo (ov Y) Y)<|Do 20 Y (Zx (m := at__2) (fk := FK3) (fv := FV3) (k := x.At) (v := i) (ov Y) (ov Y) (ov Y) ZD Y)<|Dd<|⟨_, h, ES [some 0, some 1, some 2, some 3] (hhp := .cons Y (ro1 (by exact tZ_156.symm)<|rlc (.dat Y)<|rlc (.own _ Y)<|rlc (.own _ Y)<|rlc (.mref _ Y) rln)<|.cons Y (roM D158)<|.cons Y (roM D3)<|.cons Y (ZJ (fk := FK3) (fv := FV3) (m := (Z0 kqI at__2 x.At i)) tZ_154 (fun _=>.dat Y) fun _=>.ren<|.dat Y) .nil)⟩
      ·
       refine Dw 3 13 Y (Zd (ov Y) Y Y ZaN) (Zv (ov Y) (ZG (ov Y) tZ_3) Qq Y Y Y (fun _=>Zb Y) Y h_l) ?_ ?_
       ·
        refine Dw 4 13 Y (Zi (ov Y) Y Y Y JZ Y) (Zv (ov Y) (ZG (ov Y) tZ_3) Qq Y Y Y (fun _=>Zb Y) Y h_l) ?_ ?_
        ·
         exact Do 13 Y (Zv (ov Y) (ZG (ov Y) tZ_3) Qq Y Y Y (fun _=>Zb Y) Y h_l)<|Dq 15 Y (Zs (ov Y) Y Y)<|Dq 16 Y (Zd (ov Y) Y Y Ql)<|Do 17 Y (Zf (ov Y) (ov Y) (Zg XN) Y Y Y (Nat.le_of_ble_eq_true Y) (Zb Y) Y)<|Do 18 Y (ZE (m := at__2) (fk := FK3) (fv := FV3) (k := x.At) (z0 := 0) (ov Y) (ov Y) ZD Qk Y (fun _=>.b Y)<|Zw X4 Y)<|Dq 19 Y (Zo (ov Y) Y)<|Do 20 Y (Zx (m := at__2) (fk := FK3) (fv := FV3) (k := x.At) (v := i) (ov Y) (ov Y) (ov Y) ZD Y)<|Dd<|⟨_, h, ES [some 0, some 1, some 2, some 3] (hhp := .cons Y (ro1 (by exact tZ_156.symm)<|rlc (.dat Y)<|rlc (.own _ Y)<|rlc (.own _ Y)<|rlc (.mref _ Y) rln)<|.cons Y (roM D158)<|.cons Y (roM D3)<|.cons Y (ZJ (fk := FK3) (fv := FV3) (m := (Z0 kqI at__2 x.At i)) tZ_154 (fun _=>.dat Y) fun _=>.ren<|.dat Y) .nil)⟩
        ·
         exact Dq 4 Y (Zi (ov Y) Y Y Y JZ Y)<|Dq 15 Y (Zs (ov Y) Y Y)<|Dq 16 Y (Zd (ov Y) Y Y Ql)<|Do 17 Y (Zf (ov Y) (ov Y) (Zg XN) Y Y Y (Nat.le_of_ble_eq_true Y) (Zb Y) Y)<|Do 18 Y (ZE (m := at__2) (fk := FK3) (fv := FV3) (k := x.At) (z0 := 0) (ov Y) (ov Y) ZD Qk Y (fun _=>.b Y)<|Zw X4 Y)<|Dq 19 Y (Zo (ov Y) Y)<|Do 20 Y (Zx (m := at__2) (fk := FK3) (fv := FV3) (k := x.At) (v := i) (ov Y) (ov Y) (ov Y) ZD Y)<|Dd<|⟨_, h, ES [some 0, some 1, some 2, some 3] (hhp := .cons Y (ro1 (by exact tZ_156.symm)<|rlc (.dat Y)<|rlc (.own _ Y)<|rlc (.own _ Y)<|rlc (.mref _ Y) rln)<|.cons Y (roM D158)<|.cons Y (roM D3)<|.cons Y (ZJ (fk := FK3) (fv := FV3) (m := (Z0 kqI at__2 x.At i)) tZ_154 (fun _=>.dat Y) fun _=>.ren<|.dat Y) .nil)⟩
       ·
        exact Dq 3 Y (Zd (ov Y) Y Y ZaN)<|Dq 4 Y (Zi (ov Y) Y Y Y JZ Y)<|Dq 15 Y (Zs (ov Y) Y Y)<|Dq 16 Y (Zd (ov Y) Y Y Ql)<|Do 17 Y (Zf (ov Y) (ov Y) (Zg XN) Y Y Y (Nat.le_of_ble_eq_true Y) (Zb Y) Y)<|Do 18 Y (ZE (m := at__2) (fk := FK3) (fv := FV3) (k := x.At) (z0 := 0) (ov Y) (ov Y) ZD Qk Y (fun _=>.b Y)<|Zw X4 Y)<|Dq 19 Y (Zo (ov Y) Y)<|Do 20 Y (Zx (m := at__2) (fk := FK3) (fv := FV3) (k := x.At) (v := i) (ov Y) (ov Y) (ov Y) ZD Y)<|Dd<|⟨_, h, ES [some 0, some 1, some 2, some 3] (hhp := .cons Y (ro1 (by exact tZ_156.symm)<|rlc (.dat Y)<|rlc (.own _ Y)<|rlc (.own _ Y)<|rlc (.mref _ Y) rln)<|.cons Y (roM D158)<|.cons Y (roM D3)<|.cons Y (ZJ (fk := FK3) (fv := FV3) (m := (Z0 kqI at__2 x.At i)) tZ_154 (fun _=>.dat Y) fun _=>.ren<|.dat Y) .nil)⟩
      ·
       refine Dq 3 Y (Zd (ov Y) Y Y ZaN)<|Dq 4 Y (Zi (ov Y) Y Y Y JZ Y)<|Dq 15 Y (Zs (ov Y) Y Y)<|Dq 16 Y (Zd (ov Y) Y Y Ql)<|Dw 6 17 Y (Zi (ov Y) Y Y Y tS3<|Zj at2) (Zf (ov Y) (ov Y) (Zg XN) Y Y Y (Nat.le_of_ble_eq_true Y) (Zb Y) Y) ?_ ?_
       ·
        exact Do 17 Y (Zf (ov Y) (ov Y) (Zg XN) Y Y Y (Nat.le_of_ble_eq_true Y) (Zb Y) Y)<|Do 18 Y (ZE (m := at__2) (fk := FK3) (fv := FV3) (k := x.At) (z0 := 0) (ov Y) (ov Y) ZD Qk Y (fun _=>.b Y)<|Zw X4 Y)<|Dq 19 Y (Zo (ov Y) Y)<|Do 20 Y (Zx (m := at__2) (fk := FK3) (fv := FV3) (k := x.At) (v := i) (ov Y) (ov Y) (ov Y) ZD Y)<|Dd<|⟨_, h, ES [some 0, some 1, some 2, some 3] (hhp := .cons Y (ro1 (by exact tZ_156.symm)<|rlc (.dat Y)<|rlc (.own _ Y)<|rlc (.own _ Y)<|rlc (.mref _ Y) rln)<|.cons Y (roM D158)<|.cons Y (roM D3)<|.cons Y (ZJ (fk := FK3) (fv := FV3) (m := (Z0 kqI at__2 x.At i)) tZ_154 (fun _=>.dat Y) fun _=>.ren<|.dat Y) .nil)⟩
       ·
        exact Dq 6 Y (Zi (ov Y) Y Y Y tS3<|Zj at2)<|Do 18 Y (ZE (m := at__2) (fk := FK3) (fv := FV3) (k := x.At) (z0 := 0) (ov Y) (ov Y) ZD Qk Y (fun _=>.b Y)<|Zw X4 Y)<|Dq 19 Y (Zo (ov Y) Y)<|Do 20 Y (Zx (m := at__2) (fk := FK3) (fv := FV3) (k := x.At) (v := i) (ov Y) (ov Y) (ov Y) ZD Y)<|Dd<|⟨_, h, ES [some 0, some 1, some 2, some 3] (hhp := .cons Y (ro1 (by exact tZ_156.symm)<|rlc (.dat Y)<|rlc (.own _ Y)<|rlc (.own _ Y)<|rlc (.mref _ Y) rln)<|.cons Y (roM D158)<|.cons Y (roM D3)<|.cons Y (ZJ (fk := FK3) (fv := FV3) (m := (Z0 kqI at__2 x.At i)) tZ_154 (fun _=>.dat Y) fun _=>.ren<|.dat Y) .nil)⟩
     ·
      refine Dq 3 Y (Zd (ov Y) Y Y ZaN)<|Dq 4 Y (Zi (ov Y) Y Y Y JZ Y)<|Dq 15 Y (Zs (ov Y) Y Y)<|Dq 16 Y (Zd (ov Y) Y Y Ql)<|Dw 5 17 Y (Zd (ov Y) Y Y Qc) (Zf (ov Y) (ov Y) (Zg XN) Y Y Y (Nat.le_of_ble_eq_true Y) (Zb Y) Y) ?_ ?_
      ·
       refine Dw 6 17 Y (Zi (ov Y) Y Y Y tS3<|Zj at2) (Zf (ov Y) (ov Y) (Zg XN) Y Y Y (Nat.le_of_ble_eq_true Y) (Zb Y) Y) ?_ ?_
       ·
        exact Do 17 Y (Zf (ov Y) (ov Y) (Zg XN) Y Y Y (Nat.le_of_ble_eq_true Y) (Zb Y) Y)<|Do 18 Y (ZE (m := at__2) (fk := FK3) (fv := FV3) (k := x.At) (z0 := 0) (ov Y) (ov Y) ZD Qk Y (fun _=>.b Y)<|Zw X4 Y)<|Dq 19 Y (Zo (ov Y) Y)<|Do 20 Y (Zx (m := at__2) (fk := FK3) (fv := FV3) (k := x.At) (v := i) (ov Y) (ov Y) (ov Y) ZD Y)<|Dd<|⟨_, h, ES [some 0, some 1, some 2, some 3] (hhp := .cons Y (ro1 (by exact tZ_156.symm)<|rlc (.dat Y)<|rlc (.own _ Y)<|rlc (.own _ Y)<|rlc (.mref _ Y) rln)<|.cons Y (roM D158)<|.cons Y (roM D3)<|.cons Y (ZJ (fk := FK3) (fv := FV3) (m := (Z0 kqI at__2 x.At i)) tZ_154 (fun _=>.dat Y) fun _=>.ren<|.dat Y) .nil)⟩
       ·
        exact Dq 6 Y (Zi (ov Y) Y Y Y tS3<|Zj at2)<|Do 18 Y (ZE (m := at__2) (fk := FK3) (fv := FV3) (k := x.At) (z0 := 0) (ov Y) (ov Y) ZD Qk Y (fun _=>.b Y)<|Zw X4 Y)<|Dq 19 Y (Zo (ov Y) Y)<|Do 20 Y (Zx (m := at__2) (fk := FK3) (fv := FV3) (k := x.At) (v := i) (ov Y) (ov Y) (ov Y) ZD Y)<|Dd<|⟨_, h, ES [some 0, some 1, some 2, some 3] (hhp := .cons Y (ro1 (by exact tZ_156.symm)<|rlc (.dat Y)<|rlc (.own _ Y)<|rlc (.own _ Y)<|rlc (.mref _ Y) rln)<|.cons Y (roM D158)<|.cons Y (roM D3)<|.cons Y (ZJ (fk := FK3) (fv := FV3) (m := (Z0 kqI at__2 x.At i)) tZ_154 (fun _=>.dat Y) fun _=>.ren<|.dat Y) .nil)⟩
      ·
       exact Dq 5 Y (Zd (ov Y) Y Y Qc)<|Dq 6 Y (Zi (ov Y) Y Y Y tS3<|Zj at2)<|Do 18 Y (ZE (m := at__2) (fk := FK3) (fv := FV3) (k := x.At) (z0 := 0) (ov Y) (ov Y) ZD Qk Y (fun _=>.b Y)<|Zw X4 Y)<|Dq 19 Y (Zo (ov Y) Y)<|Do 20 Y (Zx (m := at__2) (fk := FK3) (fv := FV3) (k := x.At) (v := i) (ov Y) (ov Y) (ov Y) ZD Y)<|Dd<|⟨_, h, ES [some 0, some 1, some 2, some 3] (hhp := .cons Y (ro1 (by exact tZ_156.symm)<|rlc (.dat Y)<|rlc (.own _ Y)<|rlc (.own _ Y)<|rlc (.mref _ Y) rln)<|.cons Y (roM D158)<|.cons Y (roM D3)<|.cons Y (ZJ (fk := FK3) (fv := FV3) (m := (Z0 kqI at__2 x.At i)) tZ_154 (fun _=>.dat Y) fun _=>.ren<|.dat Y) .nil)⟩
    ·
     refine ZfD [2, 6, 13] (by kernel_rfl)<|.q Y Y Y (Zs (ov Y) Y Y) ?_<|.q Y Y Y (Zi (ov Y) Y Y Y tS3<|Zj at2) ?_<|.w Y Y Y (fun h=>by cases h) (fun h=>by cases h) (Zv (ov Y) (ZG (ov Y) tZ_3) Qq Y Y Y (fun _=>Zb Y) Y h_l) ?_ .nil
     ·
      refine ZfD [3, 6, 13] (by kernel_rfl)<|.q Y Y Y (Zd (ov Y) Y Y ZaN) ?_<|.q Y Y Y (Zi (ov Y) Y Y Y tS3<|Zj at2) ?_<|.w Y Y Y (fun h=>by cases h) (fun h=>by cases h) (Zv (ov Y) (ZG (ov Y) tZ_3) Qq Y Y Y (fun _=>Zb Y) Y h_l) ?_ .nil
      ·
       refine ZfD [4, 6, 13] (by kernel_rfl)<|.q Y Y Y (Zi (ov Y) Y Y Y JZ Y) ?_<|.q Y Y Y (Zi (ov Y) Y Y Y tS3<|Zj at2) ?_<|.w Y Y Y (fun h=>by cases h) (fun h=>by cases h) (Zv (ov Y) (ZG (ov Y) tZ_3) Qq Y Y Y (fun _=>Zb Y) Y h_l) ?_ .nil
       ·
        refine Dw 6 13 Y (Zi (ov Y) Y Y Y tS3<|Zj at2) (Zv (ov Y) (ZG (ov Y) tZ_3) Qq Y Y Y (fun _=>Zb Y) Y h_l) ?_ ?_
        ·
         exact Do 13 Y (Zv (ov Y) (ZG (ov Y) tZ_3) Qq Y Y Y (fun _=>Zb Y) Y h_l)<|Dq 15 Y (Zs (ov Y) Y Y)<|Dq 16 Y (Zd (ov Y) Y Y Ql)<|Do 17 Y (Zf (ov Y) (ov Y) (Zg XN) Y Y Y (Nat.le_of_ble_eq_true Y) (Zb Y) Y)<|Do 18 Y (ZE (m := at__2) (fk := FK3) (fv := FV3) (k := x.At) (z0 := 0) (ov Y) (ov Y) ZD Qk Y (fun _=>.b Y)<|Zw X4 Y)<|Dq 19 Y (Zo (ov Y) Y)<|Do 20 Y (Zx (m := at__2) (fk := FK3) (fv := FV3) (k := x.At) (v := i) (ov Y) (ov Y) (ov Y) ZD Y)<|Dd<|⟨_, h, ES [some 0, some 1, some 2, some 3] (hhp := .cons Y (ro1 (by exact tZ_156.symm)<|rlc (.dat Y)<|rlc (.own _ Y)<|rlc (.own _ Y)<|rlc (.mref _ Y) rln)<|.cons Y (roM D158)<|.cons Y (roM D3)<|.cons Y (ZJ (fk := FK3) (fv := FV3) (m := (Z0 kqI at__2 x.At i)) tZ_154 (fun _=>.dat Y) fun _=>.ren<|.dat Y) .nil)⟩
        ·
         refine Dq 15 Y (Zs (ov Y) Y Y)<|Dq 16 Y (Zd (ov Y) Y Y Ql)<|Dw 6 17 Y (Zi (ov Y) Y Y Y tS3<|Zj at2) (Zf (ov Y) (ov Y) (Zg XN) Y Y Y (Nat.le_of_ble_eq_true Y) (Zb Y) Y) ?_ ?_
         ·
          exact Do 17 Y (Zf (ov Y) (ov Y) (Zg XN) Y Y Y (Nat.le_of_ble_eq_true Y) (Zb Y) Y)<|Do 18 Y (ZE (m := at__2) (fk := FK3) (fv := FV3) (k := x.At) (z0 := 0) (ov Y) (ov Y) ZD Qk Y (fun _=>.b Y)<|Zw X4 Y)<|Dq 19 Y (Zo (ov Y) Y)<|Do 20 Y (Zx (m := at__2) (fk := FK3) (fv := FV3) (k := x.At) (v := i) (ov Y) (ov Y) (ov Y) ZD Y)<|Dd<|⟨_, h, ES [some 0, some 1, some 2, some 3] (hhp := .cons Y (ro1 (by exact tZ_156.symm)<|rlc (.dat Y)<|rlc (.own _ Y)<|rlc (.own _ Y)<|rlc (.mref _ Y) rln)<|.cons Y (roM D158)<|.cons Y (roM D3)<|.cons Y (ZJ (fk := FK3) (fv := FV3) (m := (Z0 kqI at__2 x.At i)) tZ_154 (fun _=>.dat Y) fun _=>.ren<|.dat Y) .nil)⟩
         ·
          exact Dq 6 Y (Zi (ov Y) Y Y Y tS3<|Zj at2)<|Do 18 Y (ZE (m := at__2) (fk := FK3) (fv := FV3) (k := x.At) (z0 := 0) (ov Y) (ov Y) ZD Qk Y (fun _=>.b Y)<|Zw X4 Y)<|Dq 19 Y (Zo (ov Y) Y)<|Do 20 Y (Zx (m := at__2) (fk := FK3) (fv := FV3) (k := x.At) (v := i) (ov Y) (ov Y) (ov Y) ZD Y)<|Dd<|⟨_, h, ES [some 0, some 1, some 2, some 3] (hhp := .cons Y (ro1 (by exact tZ_156.symm)<|rlc (.dat Y)<|rlc (.own _ Y)<|rlc (.own _ Y)<|rlc (.mref _ Y) rln)<|.cons Y (roM D158)<|.cons Y (roM D3)<|.cons Y (ZJ (fk := FK3) (fv := FV3) (m := (Z0 kqI at__2 x.At i)) tZ_154 (fun _=>.dat Y) fun _=>.ren<|.dat Y) .nil)⟩
       ·
        refine Dw 4 13 Y (Zi (ov Y) Y Y Y JZ Y) (Zv (ov Y) (ZG (ov Y) tZ_3) Qq Y Y Y (fun _=>Zb Y) Y h_l) ?_ ?_
        ·
         exact Do 13 Y (Zv (ov Y) (ZG (ov Y) tZ_3) Qq Y Y Y (fun _=>Zb Y) Y h_l)<|Dq 15 Y (Zs (ov Y) Y Y)<|Dq 16 Y (Zd (ov Y) Y Y Ql)<|Do 17 Y (Zf (ov Y) (ov Y) (Zg XN) Y Y Y (Nat.le_of_ble_eq_true Y) (Zb Y) Y)<|Do 18 Y (ZE (m := at__2) (fk := FK3) (fv := FV3) (k := x.At) (z0 := 0) (ov Y) (ov Y) ZD Qk Y (fun _=>.b Y)<|Zw X4 Y)<|Dq 19 Y (Zo (ov Y) Y)<|Do 20 Y (Zx (m := at__2) (fk := FK3) (fv := FV3) (k := x.At) (v := i) (ov Y) (ov Y) (ov Y) ZD Y)<|Dd<|⟨_, h, ES [some 0, some 1, some 2, some 3] (hhp := .cons Y (ro1 (by exact tZ_156.symm)<|rlc (.dat Y)<|rlc (.own _ Y)<|rlc (.own _ Y)<|rlc (.mref _ Y) rln)<|.cons Y (roM D158)<|.cons Y (roM D3)<|.cons Y (ZJ (fk := FK3) (fv := FV3) (m := (Z0 kqI at__2 x.At i)) tZ_154 (fun _=>.dat Y) fun _=>.ren<|.dat Y) .nil)⟩
        ·
         exact Dq 4 Y (Zi (ov Y) Y Y Y JZ Y)<|Dq 15 Y (Zs (ov Y) Y Y)<|Dq 16 Y (Zd (ov Y) Y Y Ql)<|Do 17 Y (Zf (ov Y) (ov Y) (Zg XN) Y Y Y (Nat.le_of_ble_eq_true Y) (Zb Y) Y)<|Do 18 Y (ZE (m := at__2) (fk := FK3) (fv := FV3) (k := x.At) (z0 := 0) (ov Y) (ov Y) ZD Qk Y (fun _=>.b Y)<|Zw X4 Y)<|Dq 19 Y (Zo (ov Y) Y)<|Do 20 Y (Zx (m := at__2) (fk := FK3) (fv := FV3) (k := x.At) (v := i) (ov Y) (ov Y) (ov Y) ZD Y)<|Dd<|⟨_, h, ES [some 0, some 1, some 2, some 3] (hhp := .cons Y (ro1 (by exact tZ_156.symm)<|rlc (.dat Y)<|rlc (.own _ Y)<|rlc (.own _ Y)<|rlc (.mref _ Y) rln)<|.cons Y (roM D158)<|.cons Y (roM D3)<|.cons Y (ZJ (fk := FK3) (fv := FV3) (m := (Z0 kqI at__2 x.At i)) tZ_154 (fun _=>.dat Y) fun _=>.ren<|.dat Y) .nil)⟩
       ·
        refine Dq 4 Y (Zi (ov Y) Y Y Y JZ Y)<|Dq 15 Y (Zs (ov Y) Y Y)<|Dq 16 Y (Zd (ov Y) Y Y Ql)<|Dw 6 17 Y (Zi (ov Y) Y Y Y tS3<|Zj at2) (Zf (ov Y) (ov Y) (Zg XN) Y Y Y (Nat.le_of_ble_eq_true Y) (Zb Y) Y) ?_ ?_
        ·
         exact Do 17 Y (Zf (ov Y) (ov Y) (Zg XN) Y Y Y (Nat.le_of_ble_eq_true Y) (Zb Y) Y)<|Do 18 Y (ZE (m := at__2) (fk := FK3) (fv := FV3) (k := x.At) (z0 := 0) (ov Y) (ov Y) ZD Qk Y (fun _=>.b Y)<|Zw X4 Y)<|Dq 19 Y (Zo (ov Y) Y)<|Do 20 Y (Zx (m := at__2) (fk := FK3) (fv := FV3) (k := x.At) (v := i) (ov Y) (ov Y) (ov Y) ZD Y)<|Dd<|⟨_, h, ES [some 0, some 1, some 2, some 3] (hhp := .cons Y (ro1 (by exact tZ_156.symm)<|rlc (.dat Y)<|rlc (.own _ Y)<|rlc (.own _ Y)<|rlc (.mref _ Y) rln)<|.cons Y (roM D158)<|.cons Y (roM D3)<|.cons Y (ZJ (fk := FK3) (fv := FV3) (m := (Z0 kqI at__2 x.At i)) tZ_154 (fun _=>.dat Y) fun _=>.ren<|.dat Y) .nil)⟩
        ·
         exact Dq 6 Y (Zi (ov Y) Y Y Y tS3<|Zj at2)<|Do 18 Y (ZE (m := at__2) (fk := FK3) (fv := FV3) (k := x.At) (z0 := 0) (ov Y) (ov Y) ZD Qk Y (fun _=>.b Y)<|Zw X4 Y)<|Dq 19 Y (Zo (ov Y) Y)<|Do 20 Y (Zx (m := at__2) (fk := FK3) (fv := FV3) (k := x.At) (v := i) (ov Y) (ov Y) (ov Y) ZD Y)<|Dd<|⟨_, h, ES [some 0, some 1, some 2, some 3] (hhp := .cons Y (ro1 (by exact tZ_156.symm)<|rlc (.dat Y)<|rlc (.own _ Y)<|rlc (.own _ Y)<|rlc (.mref _ Y) rln)<|.cons Y (roM D158)<|.cons Y (roM D3)<|.cons Y (ZJ (fk := FK3) (fv := FV3) (m := (Z0 kqI at__2 x.At i)) tZ_154 (fun _=>.dat Y) fun _=>.ren<|.dat Y) .nil)⟩
      ·
       refine Dw 3 13 Y (Zd (ov Y) Y Y ZaN) (Zv (ov Y) (ZG (ov Y) tZ_3) Qq Y Y Y (fun _=>Zb Y) Y h_l) ?_ ?_
       ·
        refine Dw 4 13 Y (Zi (ov Y) Y Y Y JZ Y) (Zv (ov Y) (ZG (ov Y) tZ_3) Qq Y Y Y (fun _=>Zb Y) Y h_l) ?_ ?_
        ·
         exact Do 13 Y (Zv (ov Y) (ZG (ov Y) tZ_3) Qq Y Y Y (fun _=>Zb Y) Y h_l)<|Dq 15 Y (Zs (ov Y) Y Y)<|Dq 16 Y (Zd (ov Y) Y Y Ql)<|Do 17 Y (Zf (ov Y) (ov Y) (Zg XN) Y Y Y (Nat.le_of_ble_eq_true Y) (Zb Y) Y)<|Do 18 Y (ZE (m := at__2) (fk := FK3) (fv := FV3) (k := x.At) (z0 := 0) (ov Y) (ov Y) ZD Qk Y (fun _=>.b Y)<|Zw X4 Y)<|Dq 19 Y (Zo (ov Y) Y)<|Do 20 Y (Zx (m := at__2) (fk := FK3) (fv := FV3) (k := x.At) (v := i) (ov Y) (ov Y) (ov Y) ZD Y)<|Dd<|⟨_, h, ES [some 0, some 1, some 2, some 3] (hhp := .cons Y (ro1 (by exact tZ_156.symm)<|rlc (.dat Y)<|rlc (.own _ Y)<|rlc (.own _ Y)<|rlc (.mref _ Y) rln)<|.cons Y (roM D158)<|.cons Y (roM D3)<|.cons Y (ZJ (fk := FK3) (fv := FV3) (m := (Z0 kqI at__2 x.At i)) tZ_154 (fun _=>.dat Y) fun _=>.ren<|.dat Y) .nil)⟩
        ·
         exact Dq 4 Y (Zi (ov Y) Y Y Y JZ Y)<|Dq 15 Y (Zs (ov Y) Y Y)<|Dq 16 Y (Zd (ov Y) Y Y Ql)<|Do 17 Y (Zf (ov Y) (ov Y) (Zg XN) Y Y Y (Nat.le_of_ble_eq_true Y) (Zb Y) Y)<|Do 18 Y (ZE (m := at__2) (fk := FK3) (fv := FV3) (k := x.At) (z0 := 0) (ov Y) (ov Y) ZD Qk Y (fun _=>.b Y)<|Zw X4 Y)<|Dq 19 Y (Zo (ov Y) Y)<|Do 20 Y (Zx (m := at__2) (fk := FK3) (fv := FV3) (k := x.At) (v := i) (ov Y) (ov Y) (ov Y) ZD Y)<|Dd<|⟨_, h, ES [some 0, some 1, some 2, some 3] (hhp := .cons Y (ro1 (by exact tZ_156.symm)<|rlc (.dat Y)<|rlc (.own _ Y)<|rlc (.own _ Y)<|rlc (.mref _ Y) rln)<|.cons Y (roM D158)<|.cons Y (roM D3)<|.cons Y (ZJ (fk := FK3) (fv := FV3) (m := (Z0 kqI at__2 x.At i)) tZ_154 (fun _=>.dat Y) fun _=>.ren<|.dat Y) .nil)⟩
       ·
        exact Dq 3 Y (Zd (ov Y) Y Y ZaN)<|Dq 4 Y (Zi (ov Y) Y Y Y JZ Y)<|Dq 15 Y (Zs (ov Y) Y Y)<|Dq 16 Y (Zd (ov Y) Y Y Ql)<|Do 17 Y (Zf (ov Y) (ov Y) (Zg XN) Y Y Y (Nat.le_of_ble_eq_true Y) (Zb Y) Y)<|Do 18 Y (ZE (m := at__2) (fk := FK3) (fv := FV3) (k := x.At) (z0 := 0) (ov Y) (ov Y) ZD Qk Y (fun _=>.b Y)<|Zw X4 Y)<|Dq 19 Y (Zo (ov Y) Y)<|Do 20 Y (Zx (m := at__2) (fk := FK3) (fv := FV3) (k := x.At) (v := i) (ov Y) (ov Y) (ov Y) ZD Y)<|Dd<|⟨_, h, ES [some 0, some 1, some 2, some 3] (hhp := .cons Y (ro1 (by exact tZ_156.symm)<|rlc (.dat Y)<|rlc (.own _ Y)<|rlc (.own _ Y)<|rlc (.mref _ Y) rln)<|.cons Y (roM D158)<|.cons Y (roM D3)<|.cons Y (ZJ (fk := FK3) (fv := FV3) (m := (Z0 kqI at__2 x.At i)) tZ_154 (fun _=>.dat Y) fun _=>.ren<|.dat Y) .nil)⟩
      ·
       refine Dq 3 Y (Zd (ov Y) Y Y ZaN)<|Dq 4 Y (Zi (ov Y) Y Y Y JZ Y)<|Dq 15 Y (Zs (ov Y) Y Y)<|Dq 16 Y (Zd (ov Y) Y Y Ql)<|Dw 6 17 Y (Zi (ov Y) Y Y Y tS3<|Zj at2) (Zf (ov Y) (ov Y) (Zg XN) Y Y Y (Nat.le_of_ble_eq_true Y) (Zb Y) Y) ?_ ?_
       ·
        exact Do 17 Y (Zf (ov Y) (ov Y) (Zg XN) Y Y Y (Nat.le_of_ble_eq_true Y) (Zb Y) Y)<|Do 18 Y (ZE (m := at__2) (fk := FK3) (fv := FV3) (k := x.At) (z0 := 0) (ov Y) (ov Y) ZD Qk Y (fun _=>.b Y)<|Zw X4 Y)<|Dq 19 Y (Zo (ov Y) Y)<|Do 20 Y (Zx (m := at__2) (fk := FK3) (fv := FV3) (k := x.At) (v := i) (ov Y) (ov Y) (ov Y) ZD Y)<|Dd<|⟨_, h, ES [some 0, some 1, some 2, some 3] (hhp := .cons Y (ro1 (by exact tZ_156.symm)<|rlc (.dat Y)<|rlc (.own _ Y)<|rlc (.own _ Y)<|rlc (.mref _ Y) rln)<|.cons Y (roM D158)<|.cons Y (roM D3)<|.cons Y (ZJ (fk := FK3) (fv := FV3) (m := (Z0 kqI at__2 x.At i)) tZ_154 (fun _=>.dat Y) fun _=>.ren<|.dat Y) .nil)⟩
       ·
        exact Dq 6 Y (Zi (ov Y) Y Y Y tS3<|Zj at2)<|Do 18 Y (ZE (m := at__2) (fk := FK3) (fv := FV3) (k := x.At) (z0 := 0) (ov Y) (ov Y) ZD Qk Y (fun _=>.b Y)<|Zw X4 Y)<|Dq 19 Y (Zo (ov Y) Y)<|Do 20 Y (Zx (m := at__2) (fk := FK3) (fv := FV3) (k := x.At) (v := i) (ov Y) (ov Y) (ov Y) ZD Y)<|Dd<|⟨_, h, ES [some 0, some 1, some 2, some 3] (hhp := .cons Y (ro1 (by exact tZ_156.symm)<|rlc (.dat Y)<|rlc (.own _ Y)<|rlc (.own _ Y)<|rlc (.mref _ Y) rln)<|.cons Y (roM D158)<|.cons Y (roM D3)<|.cons Y (ZJ (fk := FK3) (fv := FV3) (m := (Z0 kqI at__2 x.At i)) tZ_154 (fun _=>.dat Y) fun _=>.ren<|.dat Y) .nil)⟩
     ·
      refine Dw 2 13 Y (Zs (ov Y) Y Y) (Zv (ov Y) (ZG (ov Y) tZ_3) Qq Y Y Y (fun _=>Zb Y) Y h_l) ?_ ?_
      ·
       refine Dw 3 13 Y (Zd (ov Y) Y Y ZaN) (Zv (ov Y) (ZG (ov Y) tZ_3) Qq Y Y Y (fun _=>Zb Y) Y h_l) ?_ ?_
       ·
        refine Dw 4 13 Y (Zi (ov Y) Y Y Y JZ Y) (Zv (ov Y) (ZG (ov Y) tZ_3) Qq Y Y Y (fun _=>Zb Y) Y h_l) ?_ ?_
        ·
         exact Do 13 Y (Zv (ov Y) (ZG (ov Y) tZ_3) Qq Y Y Y (fun _=>Zb Y) Y h_l)<|Dq 15 Y (Zs (ov Y) Y Y)<|Dq 16 Y (Zd (ov Y) Y Y Ql)<|Do 17 Y (Zf (ov Y) (ov Y) (Zg XN) Y Y Y (Nat.le_of_ble_eq_true Y) (Zb Y) Y)<|Do 18 Y (ZE (m := at__2) (fk := FK3) (fv := FV3) (k := x.At) (z0 := 0) (ov Y) (ov Y) ZD Qk Y (fun _=>.b Y)<|Zw X4 Y)<|Dq 19 Y (Zo (ov Y) Y)<|Do 20 Y (Zx (m := at__2) (fk := FK3) (fv := FV3) (k := x.At) (v := i) (ov Y) (ov Y) (ov Y) ZD Y)<|Dd<|⟨_, h, ES [some 0, some 1, some 2, some 3] (hhp := .cons Y (ro1 (by exact tZ_156.symm)<|rlc (.dat Y)<|rlc (.own _ Y)<|rlc (.own _ Y)<|rlc (.mref _ Y) rln)<|.cons Y (roM D158)<|.cons Y (roM D3)<|.cons Y (ZJ (fk := FK3) (fv := FV3) (m := (Z0 kqI at__2 x.At i)) tZ_154 (fun _=>.dat Y) fun _=>.ren<|.dat Y) .nil)⟩
        ·
         exact Dq 4 Y (Zi (ov Y) Y Y Y JZ Y)<|Dq 15 Y (Zs (ov Y) Y Y)<|Dq 16 Y (Zd (ov Y) Y Y Ql)<|Do 17 Y (Zf (ov Y) (ov Y) (Zg XN) Y Y Y (Nat.le_of_ble_eq_true Y) (Zb Y) Y)<|Do 18 Y (ZE (m := at__2) (fk := FK3) (fv := FV3) (k := x.At) (z0 := 0) (ov Y) (ov Y) ZD Qk Y (fun _=>.b Y)<|Zw X4 Y)<|Dq 19 Y (Zo (ov Y) Y)<|Do 20 Y (Zx (m := at__2) (fk := FK3) (fv := FV3) (k := x.At) (v := i) (ov Y) (ov Y) (ov Y) ZD Y)<|Dd<|⟨_, h, ES [some 0, some 1, some 2, some 3] (hhp := .cons Y (ro1 (by exact tZ_156.symm)<|rlc (.dat Y)<|rlc (.own _ Y)<|rlc (.own _ Y)<|rlc (.mref _ Y) rln)<|.cons Y (roM D158)<|.cons Y (roM D3)<|.cons Y (ZJ (fk := FK3) (fv := FV3) (m := (Z0 kqI at__2 x.At i)) tZ_154 (fun _=>.dat Y) fun _=>.ren<|.dat Y) .nil)⟩
       ·
        exact Dq 3 Y (Zd (ov Y) Y Y ZaN)<|Dq 4 Y (Zi (ov Y) Y Y Y JZ Y)<|Dq 15 Y (Zs (ov Y) Y Y)<|Dq 16 Y (Zd (ov Y) Y Y Ql)<|Do 17 Y (Zf (ov Y) (ov Y) (Zg XN) Y Y Y (Nat.le_of_ble_eq_true Y) (Zb Y) Y)<|Do 18 Y (ZE (m := at__2) (fk := FK3) (fv := FV3) (k := x.At) (z0 := 0) (ov Y) (ov Y) ZD Qk Y (fun _=>.b Y)<|Zw X4 Y)<|Dq 19 Y (Zo (ov Y) Y)<|Do 20 Y (Zx (m := at__2) (fk := FK3) (fv := FV3) (k := x.At) (v := i) (ov Y) (ov Y) (ov Y) ZD Y)<|Dd<|⟨_, h, ES [some 0, some 1, some 2, some 3] (hhp := .cons Y (ro1 (by exact tZ_156.symm)<|rlc (.dat Y)<|rlc (.own _ Y)<|rlc (.own _ Y)<|rlc (.mref _ Y) rln)<|.cons Y (roM D158)<|.cons Y (roM D3)<|.cons Y (ZJ (fk := FK3) (fv := FV3) (m := (Z0 kqI at__2 x.At i)) tZ_154 (fun _=>.dat Y) fun _=>.ren<|.dat Y) .nil)⟩
      ·
       exact Dq 2 Y (Zs (ov Y) Y Y)<|Dq 3 Y (Zd (ov Y) Y Y ZaN)<|Dq 4 Y (Zi (ov Y) Y Y Y JZ Y)<|Dq 15 Y (Zs (ov Y) Y Y)<|Dq 16 Y (Zd (ov Y) Y Y Ql)<|Do 17 Y (Zf (ov Y) (ov Y) (Zg XN) Y Y Y (Nat.le_of_ble_eq_true Y) (Zb Y) Y)<|Do 18 Y (ZE (m := at__2) (fk := FK3) (fv := FV3) (k := x.At) (z0 := 0) (ov Y) (ov Y) ZD Qk Y (fun _=>.b Y)<|Zw X4 Y)<|Dq 19 Y (Zo (ov Y) Y)<|Do 20 Y (Zx (m := at__2) (fk := FK3) (fv := FV3) (k := x.At) (v := i) (ov Y) (ov Y) (ov Y) ZD Y)<|Dd<|⟨_, h, ES [some 0, some 1, some 2, some 3] (hhp := .cons Y (ro1 (by exact tZ_156.symm)<|rlc (.dat Y)<|rlc (.own _ Y)<|rlc (.own _ Y)<|rlc (.mref _ Y) rln)<|.cons Y (roM D158)<|.cons Y (roM D3)<|.cons Y (ZJ (fk := FK3) (fv := FV3) (m := (Z0 kqI at__2 x.At i)) tZ_154 (fun _=>.dat Y) fun _=>.ren<|.dat Y) .nil)⟩
     ·
      refine Dq 2 Y (Zs (ov Y) Y Y)<|Dq 3 Y (Zd (ov Y) Y Y ZaN)<|Dq 4 Y (Zi (ov Y) Y Y Y JZ Y)<|Dq 15 Y (Zs (ov Y) Y Y)<|Dq 16 Y (Zd (ov Y) Y Y Ql)<|Dw 6 17 Y (Zi (ov Y) Y Y Y tS3<|Zj at2) (Zf (ov Y) (ov Y) (Zg XN) Y Y Y (Nat.le_of_ble_eq_true Y) (Zb Y) Y) ?_ ?_
      ·
       exact Do 17 Y (Zf (ov Y) (ov Y) (Zg XN) Y Y Y (Nat.le_of_ble_eq_true Y) (Zb Y) Y)<|Do 18 Y (ZE (m := at__2) (fk := FK3) (fv := FV3) (k := x.At) (z0 := 0) (ov Y) (ov Y) ZD Qk Y (fun _=>.b Y)<|Zw X4 Y)<|Dq 19 Y (Zo (ov Y) Y)<|Do 20 Y (Zx (m := at__2) (fk := FK3) (fv := FV3) (k := x.At) (v := i) (ov Y) (ov Y) (ov Y) ZD Y)<|Dd<|⟨_, h, ES [some 0, some 1, some 2, some 3] (hhp := .cons Y (ro1 (by exact tZ_156.symm)<|rlc (.dat Y)<|rlc (.own _ Y)<|rlc (.own _ Y)<|rlc (.mref _ Y) rln)<|.cons Y (roM D158)<|.cons Y (roM D3)<|.cons Y (ZJ (fk := FK3) (fv := FV3) (m := (Z0 kqI at__2 x.At i)) tZ_154 (fun _=>.dat Y) fun _=>.ren<|.dat Y) .nil)⟩
      ·
       exact Dq 6 Y (Zi (ov Y) Y Y Y tS3<|Zj at2)<|Do 18 Y (ZE (m := at__2) (fk := FK3) (fv := FV3) (k := x.At) (z0 := 0) (ov Y) (ov Y) ZD Qk Y (fun _=>.b Y)<|Zw X4 Y)<|Dq 19 Y (Zo (ov Y) Y)<|Do 20 Y (Zx (m := at__2) (fk := FK3) (fv := FV3) (k := x.At) (v := i) (ov Y) (ov Y) (ov Y) ZD Y)<|Dd<|⟨_, h, ES [some 0, some 1, some 2, some 3] (hhp := .cons Y (ro1 (by exact tZ_156.symm)<|rlc (.dat Y)<|rlc (.own _ Y)<|rlc (.own _ Y)<|rlc (.mref _ Y) rln)<|.cons Y (roM D158)<|.cons Y (roM D3)<|.cons Y (ZJ (fk := FK3) (fv := FV3) (m := (Z0 kqI at__2 x.At i)) tZ_154 (fun _=>.dat Y) fun _=>.ren<|.dat Y) .nil)⟩
    ·
     refine Dq 2 Y (Zs (ov Y) Y Y)<|Dq 3 Y (Zd (ov Y) Y Y ZaN)<|Dq 4 Y (Zi (ov Y) Y Y Y JZ Y)<|Dq 15 Y (Zs (ov Y) Y Y)<|Dq 16 Y (Zd (ov Y) Y Y Ql)<|Dw 5 17 Y (Zd (ov Y) Y Y Qc) (Zf (ov Y) (ov Y) (Zg XN) Y Y Y (Nat.le_of_ble_eq_true Y) (Zb Y) Y) ?_ ?_
     ·
      refine Dw 6 17 Y (Zi (ov Y) Y Y Y tS3<|Zj at2) (Zf (ov Y) (ov Y) (Zg XN) Y Y Y (Nat.le_of_ble_eq_true Y) (Zb Y) Y) ?_ ?_
      ·
       exact Do 17 Y (Zf (ov Y) (ov Y) (Zg XN) Y Y Y (Nat.le_of_ble_eq_true Y) (Zb Y) Y)<|Do 18 Y (ZE (m := at__2) (fk := FK3) (fv := FV3) (k := x.At) (z0 := 0) (ov Y) (ov Y) ZD Qk Y (fun _=>.b Y)<|Zw X4 Y)<|Dq 19 Y (Zo (ov Y) Y)<|Do 20 Y (Zx (m := at__2) (fk := FK3) (fv := FV3) (k := x.At) (v := i) (ov Y) (ov Y) (ov Y) ZD Y)<|Dd<|⟨_, h, ES [some 0, some 1, some 2, some 3] (hhp := .cons Y (ro1 (by exact tZ_156.symm)<|rlc (.dat Y)<|rlc (.own _ Y)<|rlc (.own _ Y)<|rlc (.mref _ Y) rln)<|.cons Y (roM D158)<|.cons Y (roM D3)<|.cons Y (ZJ (fk := FK3) (fv := FV3) (m := (Z0 kqI at__2 x.At i)) tZ_154 (fun _=>.dat Y) fun _=>.ren<|.dat Y) .nil)⟩
      ·
       exact Dq 6 Y (Zi (ov Y) Y Y Y tS3<|Zj at2)<|Do 18 Y (ZE (m := at__2) (fk := FK3) (fv := FV3) (k := x.At) (z0 := 0) (ov Y) (ov Y) ZD Qk Y (fun _=>.b Y)<|Zw X4 Y)<|Dq 19 Y (Zo (ov Y) Y)<|Do 20 Y (Zx (m := at__2) (fk := FK3) (fv := FV3) (k := x.At) (v := i) (ov Y) (ov Y) (ov Y) ZD Y)<|Dd<|⟨_, h, ES [some 0, some 1, some 2, some 3] (hhp := .cons Y (ro1 (by exact tZ_156.symm)<|rlc (.dat Y)<|rlc (.own _ Y)<|rlc (.own _ Y)<|rlc (.mref _ Y) rln)<|.cons Y (roM D158)<|.cons Y (roM D3)<|.cons Y (ZJ (fk := FK3) (fv := FV3) (m := (Z0 kqI at__2 x.At i)) tZ_154 (fun _=>.dat Y) fun _=>.ren<|.dat Y) .nil)⟩
     ·
      exact Dq 5 Y (Zd (ov Y) Y Y Qc)<|Dq 6 Y (Zi (ov Y) Y Y Y tS3<|Zj at2)<|Do 18 Y (ZE (m := at__2) (fk := FK3) (fv := FV3) (k := x.At) (z0 := 0) (ov Y) (ov Y) ZD Qk Y (fun _=>.b Y)<|Zw X4 Y)<|Dq 19 Y (Zo (ov Y) Y)<|Do 20 Y (Zx (m := at__2) (fk := FK3) (fv := FV3) (k := x.At) (v := i) (ov Y) (ov Y) (ov Y) ZD Y)<|Dd<|⟨_, h, ES [some 0, some 1, some 2, some 3] (hhp := .cons Y (ro1 (by exact tZ_156.symm)<|rlc (.dat Y)<|rlc (.own _ Y)<|rlc (.own _ Y)<|rlc (.mref _ Y) rln)<|.cons Y (roM D158)<|.cons Y (roM D3)<|.cons Y (ZJ (fk := FK3) (fv := FV3) (m := (Z0 kqI at__2 x.At i)) tZ_154 (fun _=>.dat Y) fun _=>.ren<|.dat Y) .nil)⟩
   ·
    exact Zu<|R2 ZZ Y<|Rm Y<|Za<|⟨_, h, ES [some 0, some 1, some 2, some 3] (hhp := .cons Y (ro1 (by exact tZ_156.symm)<|rlc (.dat Y)<|rlc (.own _ Y)<|rlc (.own _ Y)<|rlc (.mref _ Y) rln)<|.cons Y (roM D158)<|.cons Y (roM D3)<|.cons Y (ZJ (fk := FK3) (fv := FV3) (m := at__3) tZ_154 (fun _=>.dat Y) fun _=>.ren<|.dat Y) .nil)⟩
  ·
   refine ZL<|?_
   replace h := lx h ▸ ho1
   exact ⟨_, h, ES [some 0, some 1, some 2, some 3] (hhp := .cons Y (ro1 (by exact tZ_156.symm)<|rlc (.dat Y)<|rlc (.own _ Y)<|rlc (.own _ Y)<|rlc (.mref _ Y) rln)<|.cons Y (roM D158)<|.cons Y (roM D3)<|.cons Y (ZJ (fk := FK3) (fv := FV3) (m := at__2) tZ_154 (fun _=>.dat Y) fun _=>.ren<|.dat Y) .nil)⟩
 ·
  refine Tr<|Rm Y<|Ra Y<|Za<|?_
  obtain rfl := rt h
  exact ZhW (Ent.sel [some 0, none, none, some 3] (sr 2 Y (.ptr (r' := 0) _ _ _ Y)<|sr 3 Y (.ptr (r' := 0) _ _ _ Y)<|sr 50 Y (.ptr (r' := 0) _ _ _ Y) sn) (.cons Y (ro1 (by exact tZ_156.symm)<|rlc (.dat Y)<|rlc (Zjy Y Y Y D158)<|rlc (Zjy Y Y Y D3)<|rlc (.mref (r' := 3) _ Y) rln)<|.row 158<|.row 3<|.cons Y (ZJ (fk := FK3) (fv := FV3) (m := at__) tZ_154 (fun _=>.dat Y) fun _=>.ren<|.dat Y) .nil) Y Y)<|ZhW (Ent.sel [some 0, some 1, some 2, some 3] (sr 2 Y (.ptr (r' := 0) _ _ _ Y)<|sr 3 Y (.ptr (r' := 0) _ _ _ Y)<|sr 50 Y (.ptr (r' := 0) _ _ _ Y) sn) (.cons Y (ro1 (by exact tZ_156.symm)<|rlc (.dat Y)<|rlc (.dat Y)<|rlc (.dat Y)<|rlc (.out _) rln)<|.cons Y roE<|.cons Y roE<|.cons Y (ZJ (fk := FK3) (fv := FV3) (m := at__) tZ_154 (fun _=>.dat Y) fun _=>.ren<|.dat Y) .nil) Y Y)<|ZhW (Ent.sel [none, some 1, some 2, some 3] (sr 2 Y (.frp ⟨Y, ⟨_, Y⟩, Y, Y⟩)<|sr 3 Y (.frp ⟨Y, ⟨_, Y⟩, Y, Y⟩)<|sr 50 Y (.frp ⟨Y, ⟨_, Y⟩, Y, Y⟩) sn) (.row 156<|.cons Y roE<|.cons Y roE<|.cons Y (ZJ (fk := FK3) (fv := FV3) (m := at__) tZ_154 (fun _=>.dat Y) fun _=>.ren<|.dat Y) .nil) Y Y)<|Zz (ZP Y (.one<|rb Y))
end Go.Proofs.YthdiljjohpamnaaGreatDoorRR
