/- A text of the proof: a verified executor of the program form, or the contracts of the functions that the law reaches. -/
import Derived.Test.YtnlmjeleocelgaaDoorVT
import Derived.Test.YtnlmjeleocelgaaDoorPA
import Derived.Test.YtnlmjeleocelgaaDoorShT
import Derived.Test.YtnlmjeleocelgaaDoorProg
import Derived.Test.YtnlmjeleocelgaaDoorLayD
set_option linter.all false
namespace Go.Proofs.YtnlmjeleocelgaaDoor
open Go Go.Vx
set_option maxRecDepth 10000
set_option maxHeartbeats 1000000
set_option linter.unusedVariables false
theorem tZ_5 : Tryd.prog.cellsOf 5 = 1 := by kernel_rfl
instance : SzD Tryd.prog 5 1 := ⟨tZ_5⟩
theorem tZ_29 : Tryd.prog.cellsOf 29 = 1 := by kernel_rfl
instance : SzD Tryd.prog 29 1 := ⟨tZ_29⟩
theorem tZ_3 : Tryd.prog.cellsOf 3 = 1 := by kernel_rfl
instance : SzD Tryd.prog 3 1 := ⟨tZ_3⟩
theorem tZ_4 : Tryd.prog.cellsOf 4 = 1 := by kernel_rfl
instance : SzD Tryd.prog 4 1 := ⟨tZ_4⟩
theorem tZ_60 : Tryd.prog.cellsOf 60 = 5 := by kernel_rfl
instance : SzD Tryd.prog 60 5 := ⟨tZ_60⟩
theorem tZ_46 : Tryd.prog.cellsOf 46 = 66 := by kernel_rfl
instance : SzD Tryd.prog 46 66 := ⟨tZ_46⟩
theorem ZdK : tSl Tryd.prog 34 60 5 88 = true := by kernel_rfl
theorem Zax : tAgg Tryd.prog 60 5 = true := by kernel_rfl
theorem Zex : Jx Tryd.prog 60 = some [.int .i64 0, .int .i64 0, .slice none 0 0, .slice none 0 0, .slice none 0 0] := by kernel_rfl
theorem ZQ : tFld Tryd.prog 60 2 2 = true := by kernel_rfl
theorem QH : tScal Tryd.prog 57 = true := by kernel_rfl
theorem Qo : tSl Tryd.prog 57 29 1 24 = true := by kernel_rfl
theorem ZjA : tFld Tryd.prog 60 0 0 = true := by kernel_rfl
theorem tS3 : tScal Tryd.prog 3 = true := by kernel_rfl
theorem Zl7 : tFld Tryd.prog 60 1 1 = true := by kernel_rfl
theorem ZgQ : tFld Tryd.prog 60 3 3 = true := by kernel_rfl
theorem ZlS : tScal Tryd.prog 22 = true := by kernel_rfl
theorem Xg : tSl Tryd.prog 22 3 1 8 = true := by kernel_rfl
theorem Zim : tFld Tryd.prog 60 4 4 = true := by kernel_rfl
theorem Zl3 : tScal Tryd.prog 58 = true := by kernel_rfl
theorem Zj0 : tSl Tryd.prog 58 4 1 1 = true := by kernel_rfl
theorem Zh7 : tScal Tryd.prog 29 = true := by kernel_rfl
theorem Xf : tSl Tryd.prog 29 5 1 1 = true := by kernel_rfl
theorem ZrC : Jx Tryd.prog 96 = some [.nilFunc] := by kernel_rfl
theorem tZ_96 : Tryd.prog.cellsOf 96 = 1 := by kernel_rfl
instance : SzD Tryd.prog 96 1 := ⟨tZ_96⟩
theorem ZpV : tScal Tryd.prog 96 = true := by kernel_rfl
theorem ZjT : tArr Tryd.prog 184 16 5 1 = true := by kernel_rfl
theorem tS5 : tScal Tryd.prog 5 = true := by kernel_rfl
theorem tI5 : tInt Tryd.prog 5 .u8 = true := by kernel_rfl
theorem tI3 : tInt Tryd.prog 3 .i64 = true := by kernel_rfl
theorem tS4 : tScal Tryd.prog 4 = true := by kernel_rfl
theorem ZfQ : tInt Tryd.prog 104 .u64 = true := by kernel_rfl
theorem ZmG : tArr Tryd.prog 183 97 5 1 = true := by kernel_rfl
theorem ZhC : Jx Tryd.prog 44 = some [.int .u16 0, .int .u16 0, .int .u16 0, .int .u16 0, .int .u16 0, .int .u16 0, .int .u16 0, .int .u16 0, .int .u16 0, .int .u16 0, .int .u16 0, .int .u16 0, .int .u16 0, .int .u16 0, .int .u16 0, .int .u16 0, .int .u16 0, .int .u16 0, .int .u16 0, .int .u16 0, .int .u16 0, .int .u16 0, .int .u16 0, .int .u16 0, .int .u16 0, .int .u16 0, .int .u16 0, .int .u16 0, .int .u16 0, .int .u16 0, .int .u16 0, .int .u16 0, .int .u16 0, .int .u16 0, .int .u16 0, .int .u16 0, .int .u16 0, .int .u16 0, .int .u16 0, .int .u16 0, .int .u16 0, .int .u16 0, .int .u16 0, .int .u16 0, .int .u16 0, .int .u16 0, .int .u16 0, .int .u16 0, .int .u16 0, .int .u16 0, .int .u16 0, .int .u16 0, .int .u16 0, .int .u16 0, .int .u16 0, .int .u16 0, .int .u16 0, .int .u16 0, .int .u16 0, .int .u16 0, .int .u16 0, .int .u16 0, .int .u16 0, .int .u16 0] := by kernel_rfl
theorem tZ_44 : Tryd.prog.cellsOf 44 = 64 := by kernel_rfl
instance : SzD Tryd.prog 44 64 := ⟨tZ_44⟩
theorem Zba : tArr Tryd.prog 44 64 42 1 = true := by kernel_rfl
theorem JS : tAgg Tryd.prog 44 64 = true := by kernel_rfl
theorem Zeo : tArr Tryd.prog 109 96 5 1 = true := by kernel_rfl
theorem Zpx : tAgg Tryd.prog 109 96 = true := by kernel_rfl
theorem ZpS : Jx Tryd.prog 109 = some [.int .u8 0, .int .u8 0, .int .u8 0, .int .u8 0, .int .u8 0, .int .u8 0, .int .u8 0, .int .u8 0, .int .u8 0, .int .u8 0, .int .u8 0, .int .u8 0, .int .u8 0, .int .u8 0, .int .u8 0, .int .u8 0, .int .u8 0, .int .u8 0, .int .u8 0, .int .u8 0, .int .u8 0, .int .u8 0, .int .u8 0, .int .u8 0, .int .u8 0, .int .u8 0, .int .u8 0, .int .u8 0, .int .u8 0, .int .u8 0, .int .u8 0, .int .u8 0, .int .u8 0, .int .u8 0, .int .u8 0, .int .u8 0, .int .u8 0, .int .u8 0, .int .u8 0, .int .u8 0, .int .u8 0, .int .u8 0, .int .u8 0, .int .u8 0, .int .u8 0, .int .u8 0, .int .u8 0, .int .u8 0, .int .u8 0, .int .u8 0, .int .u8 0, .int .u8 0, .int .u8 0, .int .u8 0, .int .u8 0, .int .u8 0, .int .u8 0, .int .u8 0, .int .u8 0, .int .u8 0, .int .u8 0, .int .u8 0, .int .u8 0, .int .u8 0, .int .u8 0, .int .u8 0, .int .u8 0, .int .u8 0, .int .u8 0, .int .u8 0, .int .u8 0, .int .u8 0, .int .u8 0, .int .u8 0, .int .u8 0, .int .u8 0, .int .u8 0, .int .u8 0, .int .u8 0, .int .u8 0, .int .u8 0, .int .u8 0, .int .u8 0, .int .u8 0, .int .u8 0, .int .u8 0, .int .u8 0, .int .u8 0, .int .u8 0, .int .u8 0, .int .u8 0, .int .u8 0, .int .u8 0, .int .u8 0, .int .u8 0, .int .u8 0] := by kernel_rfl
theorem tZ_109 : Tryd.prog.cellsOf 109 = 96 := by kernel_rfl
instance : SzD Tryd.prog 109 96 := ⟨tZ_109⟩
theorem Zeb : tInt Tryd.prog 42 .u16 = true := by kernel_rfl
theorem Zb2 : tScal Tryd.prog 42 = true := by kernel_rfl
theorem Zrh : Zc8 Tryd.prog 51 = some [(0, 1), (1, 1), (2, 1), (3, 1), (4, 64)] := by kernel_rfl
theorem Zq2 : ZfO Tryd.prog 51 = true := by kernel_rfl
theorem Zpk : Jx Tryd.prog 51 = some ([.int .i64 0, .int .i64 0, .int .i64 0, .int .i64 0] ++ (List.flatten (List.replicate 64 [.int .u16 0]))) := by kernel_rfl
theorem Zk9 : tSl Tryd.prog 36 51 68 160 = true := by kernel_rfl
theorem tZ_51 : Tryd.prog.cellsOf 51 = 68 := by kernel_rfl
instance : SzD Tryd.prog 51 68 := ⟨tZ_51⟩
theorem Zre : Zc8 Tryd.prog 80 = some [(0, 2), (2, 1), (3, 1), (4, 1), (5, 1), (6, 1)] := by kernel_rfl
theorem ZqX : ZfO Tryd.prog 80 = true := by kernel_rfl
theorem ZrN : Jx Tryd.prog 80 = some [.slice none 0 0, .slice none 0 0, .int .i64 0, .bool false, .bool false, .int .i64 0, .bool false] := by kernel_rfl
theorem ZrM : tAgg Tryd.prog 80 7 = true := by kernel_rfl
theorem ZqA : (match Tryd.prog.underlying 29 with | some (.slice _) => true | _ => false) = true := by kernel_rfl
theorem ZqI : (match Tryd.prog.underlying 22 with | some (.slice _) => true | _ => false) = true := by kernel_rfl
theorem ZqF : (match Tryd.prog.underlying 58 with | some (.slice _) => true | _ => false) = true := by kernel_rfl
theorem ZeA : tFld Tryd.prog 80 0 0 = true := by kernel_rfl
theorem Zeu : tFld Tryd.prog 78 0 0 = true := by kernel_rfl
theorem Zj7 : tScal Tryd.prog 34 = true := by kernel_rfl
theorem Zmg : Jx Tryd.prog 83 = some [.int .i64 0, .int .i64 0] := by kernel_rfl
theorem tZ_83 : Tryd.prog.cellsOf 83 = 2 := by kernel_rfl
instance : SzD Tryd.prog 83 2 := ⟨tZ_83⟩
theorem Zoc : Zc8 Tryd.prog 83 = some [(0, 1), (1, 1)] := by kernel_rfl
theorem Znp : ZfO Tryd.prog 83 = true := by kernel_rfl
theorem Zjf : tAgg Tryd.prog 83 2 = true := by kernel_rfl
theorem Zf9 : tFld Tryd.prog 83 0 0 = true := by kernel_rfl
theorem ZjC : tFld Tryd.prog 83 1 1 = true := by kernel_rfl
theorem Zf8 : tFld Tryd.prog 78 1 1 = true := by kernel_rfl
theorem Zlf : tScal Tryd.prog 76 = true := by kernel_rfl
theorem ZkU : tSl Tryd.prog 76 83 2 16 = true := by kernel_rfl
theorem ZkF : tFld Tryd.prog 80 2 3 = true := by kernel_rfl
theorem tZ_80 : Tryd.prog.cellsOf 80 = 7 := by kernel_rfl
instance : SzD Tryd.prog 80 7 := ⟨tZ_80⟩
theorem tZ3 : Jx Tryd.prog 3 = some [.int .i64 0] := by kernel_rfl
theorem ZpI : tArr Tryd.prog 139 4 3 1 = true := by kernel_rfl
theorem Zrv : Jx Tryd.prog 139 = some [.int .i64 0, .int .i64 0, .int .i64 0, .int .i64 0] := by kernel_rfl
theorem Zjz : Zc8 Tryd.prog 60 = some [(0, 1), (1, 1), (2, 1), (3, 1), (4, 1)] := by kernel_rfl
theorem Zjt : ZfO Tryd.prog 60 = true := by kernel_rfl
theorem tZ4 : Jx Tryd.prog 4 = some [.bool false] := by kernel_rfl
theorem tZ5 : Jx Tryd.prog 5 = some [.int .u8 0] := by kernel_rfl
theorem ZlW : tFld Tryd.prog 80 3 4 = true := by kernel_rfl
theorem Zjw : Zc8 Tryd.prog 114 = some [(0, 1), (1, 1)] := by kernel_rfl
theorem Zjh : ZfO Tryd.prog 114 = true := by kernel_rfl
theorem ZlG : Jx Tryd.prog 114 = some [.int .i64 0, .int .i64 0] := by kernel_rfl
theorem Zin : tSl Tryd.prog 86 114 2 16 = true := by kernel_rfl
theorem tZ_114 : Tryd.prog.cellsOf 114 = 2 := by kernel_rfl
instance : SzD Tryd.prog 114 2 := ⟨tZ_114⟩
theorem Zq0 : tArr Tryd.prog 115 4 42 1 = true := by kernel_rfl
theorem Zpv : tStr Tryd.prog 9 = true := by kernel_rfl
theorem tB4 : (match Tryd.prog.underlying 4 with | some .bool => true | _ => false) = true := by kernel_rfl
theorem Zql : tFld Tryd.prog 80 1 2 = true := by kernel_rfl
theorem Zqg : tFld Tryd.prog 80 4 5 = true := by kernel_rfl
theorem Zqr : tFld Tryd.prog 80 5 6 = true := by kernel_rfl
theorem Zmt : tMap Tryd.prog 97 3 51 = true := by kernel_rfl
theorem ZpR : ZmH Tryd.prog 51 = some (.agg (([.int .i64 0, .int .i64 0, .int .i64 0, .int .i64 0] ++ (List.flatten (List.replicate 64 [.int .u16 0]))) : List Value).toArray) := by kernel_rfl
theorem Zj2 : tAgg Tryd.prog 51 68 = true := by kernel_rfl
theorem Zl2 : tFld Tryd.prog 51 4 4 = true := by kernel_rfl
theorem ZnY : tFld Tryd.prog 51 2 2 = true := by kernel_rfl
theorem tZ_97 : Tryd.prog.cellsOf 97 = 1 := by kernel_rfl
instance : SzD Tryd.prog 97 1 := ⟨tZ_97⟩
theorem Zpr : Zov Tryd.prog 51 4 4 44 64 = true := by kernel_rfl
theorem Zpa : tSl Tryd.prog 63 44 64 128 = true := by kernel_rfl
theorem Zng : tSl Tryd.prog 35 46 66 144 = true := by kernel_rfl
theorem ZmV : tAgg Tryd.prog 46 66 = true := by kernel_rfl
theorem ZqE : Jx Tryd.prog 46 = some ([.bool false] ++ (List.flatten (List.replicate 64 [.int .u16 0])) ++ [.int .i64 0]) := by kernel_rfl
theorem ZlU : tFld Tryd.prog 46 0 0 = true := by kernel_rfl
theorem Zn7 : tFld Tryd.prog 46 2 65 = true := by kernel_rfl
theorem Zoa : tFld Tryd.prog 46 1 1 = true := by kernel_rfl
def gl0 : Gl := ⟨1, [(0, (gv_frame_syncs.toList.map fun z => Value.int .u16 z).toArray)]⟩
def R5 (x : Int) : List AV := [.int .u8 x]
def R29 (x : List Int) : List AV := [.sl 5 (List.map R5 x)]
def R3 (x : Int) : List AV := [.int .i64 x]
def R4 (x : Bool) : List AV := [.bool x]
def R60 (x : api_Memory) : List AV := [.int .i64 x.Slots, .int .i64 x.Limit, .sl 29 (List.map R29 x.Sectors), .sl 3 (List.map R3 x.Wear), .sl 4 (List.map R4 x.Bad)]
def C42 (x : Int) : AV := .int .u16 x
def R46 (x : law3_Deed) : List AV := (.bool x.Freeze) :: ((List.map C42 x.Frame.toList) ++ ((.int .i64 x.Power) :: []))
def C5 (x : Int) : AV := .int .u8 x
theorem D5 (x : Int) : (R5 x).length = Tryd.prog.cellsOf 5 ∧ (R5 x).all datB = true := ⟨tZ_5.symm, rfl⟩
instance : RowD Tryd.prog 5 R5 := ⟨D5⟩
theorem D3 (x : Int) : (R3 x).length = Tryd.prog.cellsOf 3 ∧ (R3 x).all datB = true := ⟨tZ_3.symm, rfl⟩
instance : RowD Tryd.prog 3 R3 := ⟨D3⟩
theorem at1 {a0 : AV} {a1 : AV} {a2 : AV} {a3 : AV} {v4 : Vector Int 64} : At ((a0) :: (a1) :: (a2) :: (a3) :: ((List.map C42 v4.toList) ++ ([]))) 0 1 ([a0]) := at0 (hdc (n := 0) hd0)
theorem pt2 {a0 : AV} {a1 : AV} {a2 : AV} {a3 : AV} {v4 : Vector Int 64} {b0 : AV} : Put ((a0) :: (a1) :: (a2) :: (a3) :: ((List.map C42 v4.toList) ++ ([]))) 0 ([b0]) ((b0) :: (a1) :: (a2) :: (a3) :: ((List.map C42 v4.toList) ++ ([]))) := ZoP
theorem at3 {a0 : AV} {a1 : AV} {a2 : AV} {a3 : AV} {v4 : Vector Int 64} : At ((a0) :: (a1) :: (a2) :: (a3) :: ((List.map C42 v4.toList) ++ ([]))) 1 1 ([a1]) := atc (o := 0) (at0 (hdc (n := 0) hd0))
theorem pt4 {a0 : AV} {a1 : AV} {a2 : AV} {a3 : AV} {v4 : Vector Int 64} {b1 : AV} : Put ((a0) :: (a1) :: (a2) :: (a3) :: ((List.map C42 v4.toList) ++ ([]))) 1 ([b1]) ((a0) :: (b1) :: (a2) :: (a3) :: ((List.map C42 v4.toList) ++ ([]))) := ZjW (o := 0) (ZoP)
theorem at5 {a0 : AV} {a1 : AV} {a2 : AV} {a3 : AV} {v4 : Vector Int 64} : At ((a0) :: (a1) :: (a2) :: (a3) :: ((List.map C42 v4.toList) ++ ([]))) 2 1 ([a2]) := atc (o := 1) (atc (o := 0) (at0 (hdc (n := 0) hd0)))
theorem pt6 {a0 : AV} {a1 : AV} {a2 : AV} {a3 : AV} {v4 : Vector Int 64} {b2 : AV} : Put ((a0) :: (a1) :: (a2) :: (a3) :: ((List.map C42 v4.toList) ++ ([]))) 2 ([b2]) ((a0) :: (a1) :: (b2) :: (a3) :: ((List.map C42 v4.toList) ++ ([]))) := ZjW (o := 1) (ZjW (o := 0) (ZoP))
theorem at7 {a0 : AV} {a1 : AV} {a2 : AV} {a3 : AV} {v4 : Vector Int 64} : At ((a0) :: (a1) :: (a2) :: (a3) :: ((List.map C42 v4.toList) ++ ([]))) 3 1 ([a3]) := atc (o := 2) (atc (o := 1) (atc (o := 0) (at0 (hdc (n := 0) hd0))))
theorem pt8 {a0 : AV} {a1 : AV} {a2 : AV} {a3 : AV} {v4 : Vector Int 64} {b3 : AV} : Put ((a0) :: (a1) :: (a2) :: (a3) :: ((List.map C42 v4.toList) ++ ([]))) 3 ([b3]) ((a0) :: (a1) :: (a2) :: (b3) :: ((List.map C42 v4.toList) ++ ([]))) := ZjW (o := 2) (ZjW (o := 1) (ZjW (o := 0) (ZoP)))
theorem at9 {a0 : AV} {a1 : AV} {a2 : AV} {a3 : AV} {v4 : Vector Int 64} : At ((a0) :: (a1) :: (a2) :: (a3) :: ((List.map C42 v4.toList) ++ ([]))) 4 64 ((List.map C42 v4.toList)) := atc (o := 3) (atc (o := 2) (atc (o := 1) (atc (o := 0) (at0 (hdw arL)))))
theorem ZrG {a0 : AV} {a1 : AV} {a2 : AV} {a3 : AV} {v4 : Vector Int 64} {w4 : Vector Int 64} : Put ((a0) :: (a1) :: (a2) :: (a3) :: ((List.map C42 v4.toList) ++ ([]))) 4 ((List.map C42 w4.toList)) ((a0) :: (a1) :: (a2) :: (a3) :: ((List.map C42 w4.toList) ++ ([]))) := ZjW (o := 3) (ZjW (o := 2) (ZjW (o := 1) (ZjW (o := 0) (ZrL (Eq.trans arL (Eq.symm arL))))))
theorem Zab {a0 : AV} {a1 : AV} {a2 : AV} {a3 : AV} {v4 : Vector Int 64} : ((a0) :: (a1) :: (a2) :: (a3) :: ((List.map C42 v4.toList) ++ ([]))).length = 68 := lnC (n := 67) (lnC (n := 66) (lnC (n := 65) (lnC (n := 64) (lnA (m := 64) (n := 0) arL (lnN)))))
theorem ZeD {x0 : Int} {x1 : Int} {x2 : Int} {x3 : Int} {v4 : Vector Int 64} : ((.int .i64 x0) :: (.int .i64 x1) :: (.int .i64 x2) :: (.int .i64 x3) :: ((List.map C42 v4.toList) ++ ([]))).all datB = true := alC rfl (alC rfl (alC rfl (alC rfl (alA (arD fun _ => rfl) (alN)))))
def R51 (x : api_Kept) : List AV := (.int .i64 x.Memory) :: (.int .i64 x.Sector) :: (.int .i64 x.Sequence) :: (.int .i64 x.Slot) :: ((List.map C42 x.Frame.toList) ++ ([]))
theorem ZoJ {x0 : Int} {x1 : Int} {x2 : Int} {x3 : Int} {v4 : Vector Int 64} : ((.int .i64 x0) :: (.int .i64 x1) :: (.int .i64 x2) :: (.int .i64 x3) :: ((List.map C42 v4.toList) ++ ([]))).all c1B = true := alC rfl (alC rfl (alC rfl (alC rfl (alA (arC fun _ => rfl) (alN)))))
theorem E51 (x : api_Kept) : (R51 x).all c1B = true := ZoJ
theorem D51 (x : api_Kept) : (R51 x).length = Tryd.prog.cellsOf 51 ∧ (R51 x).all datB = true := ⟨Eq.trans (b := 68) Zab tZ_51.symm, ZeD⟩
instance : RowD Tryd.prog 51 R51 := ⟨D51⟩
theorem D29 (x : List Int) : (R29 x).length = Tryd.prog.cellsOf 29 ∧ (R29 x).all datB = true := ⟨tZ_29.symm, rfl⟩
instance : RowD Tryd.prog 29 R29 := ⟨D29⟩
theorem DR5 (x : Int) : (R5 x).length = Tryd.prog.cellsOf 5 ∧ ZdA Tryd.prog (R5 x) := ⟨(D5 x).1, dlF rfl⟩
def O29 (x : List Int) : List AV := [.osub 5 (List.map R5 x)]
theorem Jo (x : List Int) : (O29 x).length = Tryd.prog.cellsOf 29 ∧ ZdA Tryd.prog (O29 x) := ⟨tZ_29.symm, dlC (dcS DR5) <| dlN⟩
theorem ZqH (x : List Int) : Pw (MeltC Tryd.prog) (O29 x) (R29 x) := .cons (mcS DR5 (fun x => (D5 x).1) (fun _ => mcF rfl)) <| .nil
theorem D4 (x : Bool) : (R4 x).length = Tryd.prog.cellsOf 4 ∧ (R4 x).all datB = true := ⟨tZ_4.symm, rfl⟩
instance : RowD Tryd.prog 4 R4 := ⟨D4⟩
theorem D60 (x : api_Memory) : (R60 x).length = Tryd.prog.cellsOf 60 ∧ (R60 x).all datB = true := ⟨tZ_60.symm, rfl⟩
instance : RowD Tryd.prog 60 R60 := ⟨D60⟩
theorem DR3 (x : Int) : (R3 x).length = Tryd.prog.cellsOf 3 ∧ ZdA Tryd.prog (R3 x) := ⟨(D3 x).1, dlF rfl⟩
theorem DR4 (x : Bool) : (R4 x).length = Tryd.prog.cellsOf 4 ∧ ZdA Tryd.prog (R4 x) := ⟨(D4 x).1, dlF rfl⟩
def O60 (x : api_Memory) : List AV := [.int .i64 x.Slots, .int .i64 x.Limit, .osub 29 (List.map O29 x.Sectors), .osub 3 (List.map R3 x.Wear), .osub 4 (List.map R4 x.Bad)]
theorem Q5 (x : api_Memory) : (O60 x).length = Tryd.prog.cellsOf 60 ∧ ZdA Tryd.prog (O60 x) := ⟨tZ_60.symm, dlC (.flat rfl) <| dlC (.flat rfl) <| dlC (dcS Jo) <| dlC (dcS DR3) <| dlC (dcS DR4) <| dlN⟩
theorem Zly (x : api_Memory) : Pw (MeltC Tryd.prog) (O60 x) (R60 x) := .cons (.dat rfl) <| .cons (.dat rfl) <| .cons (mcS Jo (fun x => (D29 x).1) ZqH) <| .cons (mcS DR3 (fun x => (D3 x).1) (fun _ => mcF rfl)) <| .cons (mcS DR4 (fun x => (D4 x).1) (fun _ => mcF rfl)) <| .nil
def R83 (x : ring_spot) : List AV := [.int .i64 x.sector, .int .i64 x.slot]
theorem D83 (x : ring_spot) : (R83 x).length = Tryd.prog.cellsOf 83 ∧ (R83 x).all datB = true := ⟨tZ_83.symm, rfl⟩
instance : RowD Tryd.prog 83 R83 := ⟨D83⟩
def C3 (x : Int) : AV := .int .i64 x
def R114 (x : api_Flaw) : List AV := [.int .i64 x.Word, .int .i64 x.Kind]
theorem D114 (x : api_Flaw) : (R114 x).length = Tryd.prog.cellsOf 114 ∧ (R114 x).all datB = true := ⟨tZ_114.symm, rfl⟩
instance : RowD Tryd.prog 114 R114 := ⟨D114⟩
def FK3 (x : Int) : AV := .int .i64 x
theorem Zp8 : KeyOK Tryd.prog 3 FK3 kqI := Zo5 (fun _ => rfl) tI3
def Zgs (x : api_Kept) : AV := .agg ((.int .i64 x.Memory) :: (.int .i64 x.Sector) :: (.int .i64 x.Sequence) :: (.int .i64 x.Slot) :: ((List.map C42 x.Frame.toList) ++ ([])))
theorem Zq9 {x0 : Int} {x1 : Int} {x2 : Int} {x3 : Int} {v4 : Vector Int 64} : NS ((.int .i64 x0) :: (.int .i64 x1) :: (.int .i64 x2) :: (.int .i64 x3) :: ((List.map C42 v4.toList) ++ ([]))) := nsC rfl (nsC rfl (nsC rfl (nsC rfl (nsA (nsM fun _ => rfl) (nsR rfl)))))
def R44 (x : Vector Int 64) : List AV := (List.map C42 x.toList)
theorem E44 (x : Vector Int 64) : (R44 x).all c1B = true := (arC fun _ => rfl)
theorem D44 (x : Vector Int 64) : (R44 x).length = Tryd.prog.cellsOf 44 ∧ (R44 x).all datB = true := ⟨Eq.trans (b := 64) arL tZ_44.symm, (arD fun _ => rfl)⟩
instance : RowD Tryd.prog 44 R44 := ⟨D44⟩
theorem ZpH : Zpt Tryd.prog 44 ((List.replicate 64 ([.i .u16])).flatten) := ⟨by kernel_rfl, by kernel_rfl, by kernel_rfl⟩
theorem ZdE {a0 : AV} {v1 : Vector Int 64} {a2 : AV} : ((a0) :: ((List.map C42 v1.toList) ++ ((a2) :: []))).length = 66 := lnC (n := 65) (lnA (m := 64) (n := 1) arL (lnC (n := 0) (lnN)))
theorem ZqJ {x0 : Bool} {v1 : Vector Int 64} {x2 : Int} : ((.bool x0) :: ((List.map C42 v1.toList) ++ ((.int .i64 x2) :: []))).all c1B = true := alC rfl (alA (arC fun _ => rfl) (alC rfl (alN)))
theorem Zqm {a0 : AV} {v1 : Vector Int 64} {a2 : AV} : At ((a0) :: ((List.map C42 v1.toList) ++ ((a2) :: []))) 0 1 ([a0]) := at0 (hdc (n := 0) hd0)
theorem Zrj {a0 : AV} {v1 : Vector Int 64} {a2 : AV} : At ((a0) :: ((List.map C42 v1.toList) ++ ((a2) :: []))) 65 1 ([a2]) := atc (o := 64) (ata (m := 64) (o := 0) arL (at0 (hdc (n := 0) hd0)))
theorem Zrf {a0 : AV} {v1 : Vector Int 64} {a2 : AV} : At ((a0) :: ((List.map C42 v1.toList) ++ ((a2) :: []))) 1 64 ((List.map C42 v1.toList)) := atc (o := 0) (at0 (hdw arL))
theorem Zq6 : Zpt Tryd.prog 51 ((.i .i64 :: (.i .i64 :: (.i .i64 :: (.i .i64 :: ((List.replicate 64 ([.i .u16])).flatten ++ [])))))) := ⟨by kernel_rfl, by kernel_rfl, by kernel_rfl⟩
theorem QQ {n : Int} {low : Int} {high : Int} {r : Bool} (h : Z9 n low high = some r) :
 CSpec Tryd.prog gl0 18 [.int .i64 n, .int .i64 low, .int .i64 high] (.bool r) := by
 unfold Z9 at h
 replace h := QO h
 refine So Tryd.func18 Y fun w0 A=>Tr<|Ra Y<|Za<|Tr<|Rm Y<|Rm Y<|R2 ZiI Y<|Rm Y<|Rq Y (.guarded ((decide (low ≤ n)) == true) Y Y Y Y fun h => Zc<|ov Y)<|Rq Y (.guarded ((decide (low ≤ n)) == true) Y Y Y Y fun h => Zc<|ov Y)<|Rq Y (.guarded ((decide (low ≤ n)) == true) Y Y Y Y fun h => Zkh (ow Y h)<|ow Y h)<|Rq Y (Zdj (ov Y) fun hp=>ow Y<|gT hp)<|Ra Y<|Za<|?_
 obtain rfl := rt h
 exact Zp (Z5 Y (.one<|rb Y))
theorem Qa {slots : Int} {r : Int} (h : Xa slots = some r) :
 CSpec Tryd.prog gl0 42 [.int .i64 slots] (.int .i64 r) := by
 unfold Xa at h
 replace h := QO h
 refine So Tryd.func42 Y fun w0 A=>Tr<|Ra Y<|Za<|Tr<|Rm Y<|R2 ZgY Y<|R2 ZU Y<|Ra Y<|Za<|?_
 obtain rfl := rt h
 exact Zp (Z5 Y (.one<|rb Y))
theorem ZgB {m : api_Memory} {r : Int} (h : QY m = some r) :
 CSpec Tryd.prog gl0 44 [.agg [.int .i64 m.Slots, .int .i64 m.Limit, .sl 29 (List.map R29 m.Sectors), .sl 3 (List.map R3 m.Wear), .sl 4 (List.map R4 m.Bad)]] (.int .i64 r) := by
 unfold QY at h
 replace h := QO h
 refine So Tryd.func44 Y fun w0 A=>Tr<|Rq Y (Zdx (cva<|ov Y) Y tZ_60 Y)<|Ra Y<|Za<|K1 1 Y<|Tr<|Rq Y (Qj (ov Y) ZQ)<|Rq Y (Zi (ov Y) QH Y)<|Rl tZ_29 Qo Y<|Ra Y<|Za<|Zg<|Zf<|K2 1 3 Y<|Tr<|Rq Y (Qj (ov Y) ZjA)<|Rq Y (Zi (ov Y) tS3 Y)<|bE h fun y h_y h=>Rq Y (Zt (QQ h_y)<|.cons (ov Y) (.b Y)<|.cons (ov Y) (.b Y)<|.cons (ov Y) (.b Y) .nil)<|R1 J9 Y<|Rm Y<|Rq Y (.guarded ((!y) == false) Y Y Y Y fun h => Qj (ov Y) Zl7)<|Rq Y (.guarded ((!y) == false) Y Y Y Y fun h => Zi (ow Y h) tS3 Y)<|bE h fun y2 h_y2 h=>Rq Y (.guarded ((!y) == false) Y Y Y Y fun h => Zt (QQ<|gdT h_y2 h)<|.cons (ow Y h) (.b Y)<|.cons (ov Y) (.b Y)<|.cons (ov Y) (.b Y) .nil)<|Rq Y (.guarded ((!y) == false) Y Y Y Y fun h => J9<|ow Y h)<|Rq Y (Zgu (ov Y) fun hp=>ow Y<|gF hp)<|Rm Y<|Rq Y (.guarded (((!y) || (!y2)) == false) Y Y Y Y fun h => Zc<|ov Y)<|bE h fun y3 h_y3 h=>Rq Y (.guarded (((!y) || (!y2)) == false) Y Y Y Y fun h => Zt (QQ<|gdT h_y3 h)<|.cons (ow Y h) (.b Y)<|.cons (ov Y) (.b Y)<|.cons (ov Y) (.b Y) .nil)<|Rq Y (.guarded (((!y) || (!y2)) == false) Y Y Y Y fun h => J9<|ow Y h)<|Rq Y (Zgu (ov Y) fun hp=>ow Y<|gF hp)<|Ra Y<|Za<|K3 1 3 9 Y<|If h Y (fun h=>?_) fun h=>?_
 ·
  refine K0<|Tr<|Ra Y<|Za<|?_
  obtain rfl := rt h
  exact Zp (Z5 Y (.one<|rb Y))
 ·
  refine K2 1 3 Y<|Tr<|Rq Y (Qj (ov Y) ZgQ)<|Rq Y (Zi (ov Y) ZlS Y)<|Rl tZ_3 Xg Y<|Rm Y<|R2 Jv Y<|Rm Y<|Rq Y (.guarded ((!decide ((m.Wear.length : Int) = (m.Sectors.length : Int))) == false) Y Y Y Y fun h => Qj (ov Y) Zim)<|Rq Y (.guarded ((!decide ((m.Wear.length : Int) = (m.Sectors.length : Int))) == false) Y Y Y Y fun h => Zi (ow Y h) Zl3 Y)<|Rq Y (.guarded ((!decide ((m.Wear.length : Int) = (m.Sectors.length : Int))) == false) Y Y Y Y fun h => ZlO (Jb (ow Y h) tZ_4) Zj0<|ZhB _ _)<|Rq Y (.guarded ((!decide ((m.Wear.length : Int) = (m.Sectors.length : Int))) == false) Y Y Y Y fun h => Zc<|ov Y)<|Rq Y (.guarded ((!decide ((m.Wear.length : Int) = (m.Sectors.length : Int))) == false) Y Y Y Y fun h => Jv (ow Y h)<|ow Y h)<|Rq Y (Zgu (ov Y) fun hp=>ow Y<|gF hp)<|Ra Y<|Za<|K2 1 25 Y<|If h Y (fun h=>?_) fun h=>?_
  ·
   refine K0<|Tr<|Ra Y<|Za<|?_
   obtain rfl := rt h
   exact Zp (Z5 Y (.one<|rb Y))
  ·
   refine Zh<|J0 (fun j => (.inr j)) ⟨[], []⟩ h (fun h=>?_) fun h=>?_
   ·
    refine K1 1 Y<|Tr<|Rq Y (Qj (ov Y) ZQ)<|Rq Y (Zi (ov Y) QH Y)<|Rl tZ_29 Qo Y<|Rm Y<|Za<|Zf<|?_
    obtain ⟨r1, hl1, ho1⟩ := Xm h
    refine L1 (fun i=>⟨[(1, .rp [.int .i64 m.Slots, .int .i64 m.Limit, .sl 29 (List.map R29 m.Sectors), .sl 3 (List.map R3 m.Wear), .sl 4 (List.map R4 m.Bad)] 0), (39, .sl 29 (List.map R29 m.Sectors)), (40, .int .i64 (m.Sectors.length : Int)), (41, .int .i64 i)], []⟩) hl1 (ES []) fun n1 i h=>?_
    unfold Qe at h
    refine Tr<|R2 ZT Y<|Za<|Zg<|If h Y (fun h=>?_) fun h=>?_
    ·
     refine Zh<|Zg<|Zf<|K4 1 39 40 41 Y<|Tr<|Rm Y<|bE h fun x h_x h=>Rq Y (Qz (ov Y) (ov Y) Qo h_x)<|Rq Y (Zi (ov Y) Zh7 Y)<|Ra Y<|Ra Y<|Za<|Zg<|K6 1 4 5 39 40 41 Y<|Tr<|Rm Y<|Rl tZ_5 Xf Y<|Rq Y (Qj (ov Y) ZjA)<|Rq Y (Zi (ov Y) tS3 Y)<|bE h fun y4 h_y4 h=>Rq Y (Zt (Qa h_y4)<|.cons (ov Y) (.b Y) .nil)<|R2 Jv Y<|Za<|K6 1 4 39 40 41 51 Y<|If h Y (fun h=>?_) fun h=>?_
     ·
      refine K0<|Tr<|Ra Y<|Za<|?_
      replace h := lx h ▸ ho1
      obtain rfl := rt h
      exact Zp (Z5 Y (.one<|rb Y))
     ·
      refine Zh<|Zg<|K5 1 4 39 40 41 Y<|QL (cw := md0) (by kernel_rfl)<|Dq 0 Y (Qj (ov Y) ZgQ)<|Dq 1 Y (Zi (ov Y) ZlS Y)<|D1 2 Zc Y<|bE h fun x2 h_x2 h=>Dq 3 Y (Qz (ov Y) (ov Y) Xg h_x2)<|Dq 4 Y (Zi (ov Y) tS3 Y)<|Dq 5 Y (Qj (ov Y) Zl7)<|Dq 6 Y (Zi (ov Y) tS3 Y)<|bE h fun y5 h_y5 h=>Dq 7 Y (Zt (QQ h_y5)<|.cons (ov Y) (.b Y)<|.cons (ov Y) (.b Y)<|.cons (ov Y) (.b Y) .nil)<|D1 8 J9 Y<|Dd<|K5 1 39 40 41 60 Y<|If h Y (fun h=>?_) fun h=>?_
      ·
       refine K0<|Tr<|Ra Y<|Za<|?_
       replace h := lx h ▸ ho1
       obtain rfl := rt h
       exact Zp (Z5 Y (.one<|rb Y))
      ·
       exact Zh<|K4 1 39 40 41 Y<|Zs<|R2 ZU Y<|Rm Y<|Za<|⟨_, h, ES []⟩
    ·
     refine ZM<|?_
     replace h := lx h ▸ ho1
     exact ⟨(), h, ES []⟩
   ·
    replace h := elr h
    replace h := t0i h
    refine Tr<|Ra Y<|Za<|?_
    obtain rfl := rt h
    exact Zp (Z5 Y (.one<|rb Y))
theorem ZeR {l : List api_Memory} {r : Int} (h : Xh l = some r) :
 CSpec Tryd.prog gl0 25 [.sl 60 (List.map R60 l)] (.int .i64 r) := by
 unfold Xh at h
 replace h := QO h
 refine So Tryd.func25 Y fun w0 A=>Tr<|Ra Y<|Za<|Zg<|K1 0 Y<|Tr<|Rm Y<|Rl tZ_60 ZdK Y<|bE h fun y h_y h=>Rq Y (Zt (QQ h_y)<|.cons (ov Y) (.b Y)<|.cons (ov Y) (.b Y)<|.cons (ov Y) (.b Y) .nil)<|R1 J9 Y<|Za<|K2 0 9 Y<|If h Y (fun h=>?_) fun h=>?_
 ·
  refine K0<|Tr<|Ra Y<|Za<|?_
  obtain rfl := rt h
  exact Zp (Z5 Y (.one<|rb Y))
 ·
  refine Zh<|J0 (fun j => (.inr j)) ⟨[], []⟩ h (fun h=>?_) fun h=>?_
  ·
   refine K1 0 Y<|Tr<|Rm Y<|Rl tZ_60 ZdK Y<|Rm Y<|Za<|Zf<|?_
   obtain ⟨r1, hl1, ho1⟩ := Xm h
   refine L1 (fun i=>⟨[(10, .sl 60 (List.map R60 l)), (11, .int .i64 (l.length : Int)), (12, .int .i64 i)], []⟩) hl1 (ES []) fun n1 i h=>?_
   unfold ring_checkAll_L1 at h
   refine Tr<|R2 ZT Y<|Za<|Zg<|If h Y (fun h=>?_) fun h=>?_
   ·
    refine Zh<|Zg<|Zf<|K3 10 11 12 Y<|Tr<|bE h fun x h_x h=>Rq Y (Qz (ov Y) (ov Y) ZdK h_x)<|Rq Y (QP (ov Y) Zax Y Y)<|Rx Y (Qd (row := [_, _, _, _, _]) 0 Y Zex Y tZ_60)<|Rx Y (Zk (ov Y) (ov Y) (ZB Zax Y) Y Y Y (Nat.le_of_ble_eq_true Y) (Zb Y) Y)<|Za<|K4 4 10 11 12 Y<|Tr<|Rq Y (QD (ov Y) Y Y Y Zax Y Y)<|bE h fun y2 h_y2 h=>Rq Y (Zt (ZgB h_y2)<|.cons (ov Y) (.aggB Y) .nil)<|Ra Y<|Za<|K4 5 10 11 12 Y<|Tr<|Rm Y<|R2 Jv Y<|Za<|K5 5 10 11 12 19 Y<|If h Y (fun h=>?_) fun h=>?_
    ·
     refine K1 5 Y<|Tr<|Rm Y<|Ra Y<|Za<|?_
     replace h := lx h ▸ ho1
     obtain rfl := rt h
     exact Zp (Z5 Y (.one<|rb Y))
    ·
     exact Zh<|K3 10 11 12 Y<|Zs<|R2 ZU Y<|Rm Y<|Za<|⟨_, h, ES []⟩
   ·
    refine ZM<|?_
    replace h := lx h ▸ ho1
    exact ⟨(), h, ES []⟩
  ·
   replace h := elr h
   replace h := t0i h
   refine Tr<|Ra Y<|Za<|?_
   obtain rfl := rt h
   exact Zp (Z5 Y (.one<|rb Y))
theorem ZfR {sequence : Int} {r : (List Int)} (h : Zal sequence = some r) :
 CSpec Tryd.prog gl0 49 [.int .i64 sequence] (.sl 5 (List.map R5 r)) := by
 unfold Zal at h
 replace h := QO h
 refine So Tryd.func49 Y fun w0 A=>Tr<|Ra Y<|Za<|K1 0 Y<|Tr<|Rx Y (ZkV (r := 0) (xs := ([79, 66] : List Int)) (f := R5) Y Xf (.cons (cvs (ov Y)<|Zn Y) Y (.cons (.b Y) .nil)<|.cons (cvs (ov Y)<|Zn Y) Y (.cons (.b Y) .nil) .nil) Y Y Y)<|Ra Y<|Za<|I1 (fun out=>⟨[(3, .own 0 out.length)], [some ⟨5, List.map R5 out⟩]⟩) h (fun h=>?_) fun out h=>?_
 ·
  refine K2 0 3 Y<|Tr<|Ra Y<|Za<|Zf<|?_
  obtain ⟨r1, hl1, ho1⟩ := Xm h
  refine L2 (fun out2 shift=>⟨[(0, .int .i64 sequence), (3, .own 0 out2.length), (4, .int .i64 shift)], [some ⟨5, List.map R5 out2⟩]⟩) hl1 (ES [some 0]) fun n1 out2 shift h=>?_
  unfold Xk at h
  refine Zg<|Tr<|Rm Y<|R2 ZiI Y<|Za<|K4 0 3 4 9 Y<|If h Y (fun h=>?_) fun h=>?_
  ·
   exact Zh<|Zg<|Zf<|K3 0 3 4 Y<|Zs<|Rm Y<|Rm Y<|Rm Y<|bE h fun q h_q h=>Rq Y (Zbf (ov Y) (ov Y) h_q)<|Rq Y (Qx (ov Y) tI3 tI5 Y)<|R_q (.sl 5<|List.map R5 ([(u8 q)] : List Int)) Y (Zae Xf (.cons (cvs (ov Y)<|Zn Y) Y (.cons (.b Y) .nil) .nil) Y Y)<|bE h fun l h_l h=>Rx Y (XT (ov Y) (Jb (ov Y) tZ_5) Xf Y Y Y (fun _=>Zb Y) Y h_l)<|Ra Y<|Za<|K3 0 3 4 Y<|Zs<|Rm Y<|R2 Zcq Y<|Ra Y<|Za<|⟨_, h, ES [some 0]⟩
  ·
   refine ZM<|?_
   replace h := lx h ▸ ho1
   exact ⟨_, h, ES [some 0]⟩
 ·
  refine I1 (fun out3=>⟨[(3, .own 0 out3.length)], [some ⟨5, List.map R5 out3⟩]⟩) h (fun h=>?_) fun out3 h=>?_
  ·
   refine Tr<|Rm Y<|bE h fun u h_u h=>Rq Y (ZpB (ov Y) Y Y Xf (oi<|ov Y) (oi<|ov Y) h_u)<|Rq Y (ZnF (ov Y) Y (List.length_map ..) Xf)<|Rm Y<|Za<|Zf<|?_
   obtain ⟨r2, hl2, ho2⟩ := Xm h
   refine Zo9 (τ := Option (List Int)) _ (fun b s=>Option.elim b (t2 (fun out4 i=>(⟨[(3, .own 0 out4.length), (20, .osl 0 out4.length (Int.toNat 2) (Int.toNat (6 - 2))), (21, .int .i64 ((Int.toNat (6 - 2) : Nat) : Int)), (22, .int .i64 i)], [some ⟨5, List.map R5 out4⟩]⟩ : St)) s) fun old2=>t2 (fun out4 i=>(⟨[(3, .own 1 out4.length), (20, .osl 0 old2.length (Int.toNat 2) (Int.toNat (6 - 2))), (21, .int .i64 ((Int.toNat (6 - 2) : Nat) : Int)), (22, .int .i64 i)], [some ⟨5, List.map R5 old2⟩, some ⟨5, List.map R5 out4⟩]⟩ : St)) s) (fun b s => ∃ tl, Option.getD b s.1 = out ++ tl) none _ hl2 ZnJ (Ent.sel [some 0] (sr 3 Y (.own _ Y)<|sr 20 Y (.osl _ _ _ Y)<|sd 21 Y Y<|sd 22 Y Y sn) (.cons Y (roM D5) .nil) Y Y) fun b2 n2 s2 hC h=>?_
   obtain ⟨out4, i⟩ := s2
   replace h := t2i h
   unfold Xq at h
   rcases b2 with _ | old2
   ·
    replace hC : ∃ tl, out4 = out ++ tl := hC
    show T _ _ ⟨[(3, .own 0 out4.length), (20, .osl 0 out4.length (Int.toNat 2) (Int.toNat (6 - 2))), (21, .int .i64 ((Int.toNat (6 - 2) : Nat) : Int)), (22, .int .i64 i)], [some ⟨5, List.map R5 out4⟩]⟩ _
    refine Tr<|R2 ZT Y<|Za<|Zg<|If h Y (fun h=>?_) fun h=>?_
    ·
     refine Zh<|Zg<|Zf<|K4 3 20 21 22 Y<|Tr<|bE h fun u2 h_u2 h=>bE h fun x2 h_x2 h=>?_
     have h_x2P := ZmK hC h_x2
     refine Rq Y (Zow (ov Y) (ov Y) Xf Y Y (Zht h_u).1 h_u2 h_x2P)<|Rq Y (QE (ov Y) Y Y h_x2P tS5 Y)<|Ra Y<|Za<|K5 3 6 20 21 22 Y<|Zs<|Rm Y<|Rm Y<|R1 Zmk Y<|R_q (.sl 5<|List.map R5 ([(ZbY .u8 255 x2)] : List Int)) Y (Zae Xf (.cons (cvs (ov Y)<|Zn Y) Y (.cons (.b Y) .nil) .nil) Y Y)<|bE h fun l2 h_l2 h=>ZoI (f := R5) (tp := 20) (ys := ([(ZbY .u8 255 x2)] : List Int)) Y (ov Y) (Jb (ov Y) tZ_5) Xf Y Y Y (fun _=>Zb Y) Y (fun _=>nsR Y) h_l2 Y ?_ ?_
     ·
      exact Ra Y<|Za<|K4 3 20 21 22 Y<|Zs<|R2 ZU Y<|Rm Y<|Za<|⟨none, (l2, (i64 (i + 1))), ZoY hC h_l2, h, Ent.sel [some 0] (sr 3 Y (.own _ Y) <| sr 20 Y (.osl _ _ _ Y) <| sd 21 Y Y <| sd 22 Y Y <| sn) (.cons Y (roM D5) <| .nil) Y Y⟩
     ·
      exact Ra Y<|Za<|K4 3 20 21 22 Y<|Zs<|R2 ZU Y<|Rm Y<|Za<|⟨some out4, (l2, (i64 (i + 1))), hC, h, Ent.sel [some 0, some 1] (sr 3 Y (.own _ Y) <| sr 20 Y (.osl _ _ _ Y) <| sd 21 Y Y <| sd 22 Y Y <| sn) (.cons Y (roM D5) <| .cons Y (roM D5) <| .nil) Y Y⟩
    ·
     refine ZM<|?_
     replace h := lx h ▸ ho2
     exact ⟨_, h, ES [some 0]⟩
   ·
    replace hC : ∃ tl, old2 = out ++ tl := hC
    show T _ _ ⟨[(3, .own 1 out4.length), (20, .osl 0 old2.length (Int.toNat 2) (Int.toNat (6 - 2))), (21, .int .i64 ((Int.toNat (6 - 2) : Nat) : Int)), (22, .int .i64 i)], [some ⟨5, List.map R5 old2⟩, some ⟨5, List.map R5 out4⟩]⟩ _
    refine Tr<|R2 ZT Y<|Za<|Zg<|If h Y (fun h=>?_) fun h=>?_
    ·
     refine Zh<|Zg<|Zf<|K4 3 20 21 22 Y<|Tr<|bE h fun u2 h_u2 h=>bE h fun x2 h_x2 h=>?_
     have h_x2P := ZmK hC h_x2
     exact Rq Y (Zow (ov Y) (ov Y) Xf Y Y (Zht h_u).1 h_u2 h_x2P)<|Rq Y (QE (ov Y) Y Y h_x2P tS5 Y)<|Ra Y<|Za<|K5 3 6 20 21 22 Y<|Zs<|Rm Y<|Rm Y<|R1 Zmk Y<|R_q (.sl 5<|List.map R5 ([(ZbY .u8 255 x2)] : List Int)) Y (Zae Xf (.cons (cvs (ov Y)<|Zn Y) Y (.cons (.b Y) .nil) .nil) Y Y)<|bE h fun l2 h_l2 h=>Rx Y (XT (ov Y) (Jb (ov Y) tZ_5) Xf Y Y Y (fun _=>Zb Y) Y h_l2)<|Ra Y<|Za<|K4 3 20 21 22 Y<|Zs<|R2 ZU Y<|Rm Y<|Za<|⟨some old2, (l2, (i64 (i + 1))), hC, h, Ent.sel [some 0, some 1] (sr 3 Y (.own _ Y) <| sr 20 Y (.osl _ _ _ Y) <| sd 21 Y Y <| sd 22 Y Y <| sn) (.cons Y (roM D5) <| .cons Y (roM D5) <| .nil) Y Y⟩
    ·
     refine ZM<|?_
     replace h := lx h ▸ ho2
     exact ⟨_, h, ES [some 1]⟩
  ·
   refine Tr<|Rm Y<|Ra Y<|Za<|?_
   obtain rfl := rt h
   exact Zp (Z5 Y (.one<|.tmp Y<|View.ownM Y Y D5))
theorem Zee {s1 : List Int} {s2 : List Int} {r : Bool} (h : Qy s1 s2 = some r) :
 CSpec Tryd.prog gl0 48 [.sl 5 (List.map R5 s1), .sl 5 (List.map R5 s2)] (.bool r) := by
 unfold Qy at h
 replace h := QO h
 refine So Tryd.func48 Y fun w0 A=>Tr<|Ra Y<|Za<|Zg<|K2 0 1 Y<|Tr<|Rm Y<|Rl tZ_5 Xf Y<|Rm Y<|Rl tZ_5 Xf Y<|R2 Jv Y<|Za<|K3 0 1 10 Y<|If h Y (fun h=>?_) fun h=>?_
 ·
  refine K0<|Tr<|Ra Y<|Za<|?_
  obtain rfl := rt h
  exact Zp (Z5 Y (.one<|rb Y))
 ·
  refine Zh<|J0 (fun j => (.inr j)) ⟨[], []⟩ h (fun h=>?_) fun h=>?_
  ·
   refine K2 0 1 Y<|Tr<|Rm Y<|Rl tZ_5 Xf Y<|Rm Y<|Za<|Zf<|?_
   obtain ⟨r1, hl1, ho1⟩ := Xm h
   refine L1 (fun i=>⟨[(0, .sl 5 (List.map R5 s1)), (1, .sl 5 (List.map R5 s2)), (12, .int .i64 (s1.length : Int)), (13, .int .i64 i)], []⟩) hl1 (ES []) fun n1 i h=>?_
   unfold Qv at h
   refine Tr<|R2 ZT Y<|Za<|Zg<|If h Y (fun h=>?_) fun h=>?_
   ·
    refine Zh<|Zg<|Zf<|K4 0 1 12 13 Y<|Tr<|Rm Y<|Ra Y<|Za<|Zg<|K5 0 1 5 12 13 Y<|QL (cw := md0) (by kernel_rfl)<|D1 0 Zc Y<|D1 1 Zc Y<|bE h fun x h_x h=>Dq 2 Y (Qz (ov Y) (ov Y) Xf h_x)<|Dq 3 Y (Zi (ov Y) tS5 Y)<|D1 4 Zc Y<|D1 5 Zc Y<|bE h fun x2 h_x2 h=>Dq 6 Y (Qz (ov Y) (ov Y) Xf h_x2)<|Dq 7 Y (Zi (ov Y) tS5 Y)<|D2 8 Jv Y<|Dd<|K5 0 1 12 13 24 Y<|If h Y (fun h=>?_) fun h=>?_
    ·
     refine K0<|Tr<|Ra Y<|Za<|?_
     replace h := lx h ▸ ho1
     obtain rfl := rt h
     exact Zp (Z5 Y (.one<|rb Y))
    ·
     exact Zh<|K4 0 1 12 13 Y<|Zs<|R2 ZU Y<|Rm Y<|Za<|⟨_, h, ES []⟩
   ·
    refine ZM<|?_
    replace h := lx h ▸ ho1
    exact ⟨(), h, ES []⟩
  ·
   replace h := elr h
   replace h := t0i h
   refine Tr<|Ra Y<|Za<|?_
   obtain rfl := rt h
   exact Zp (Z5 Y (.one<|rb Y))
theorem Zcl {s : List Int} {r : Int × Bool × Bool} (h : J5 s = some r) :
 CSpec Tryd.prog gl0 27 [.sl 5 (List.map R5 s)] (.tuple [.int .i64 r.1, .bool r.2.1, .bool r.2.2]) := by
 unfold J5 at h
 replace h := QO h
 refine So Tryd.func27 Y fun w0 A=>Tr<|Ra Y<|Ra Y<|Ra Y<|Za<|Zg<|K1 0 Y<|Tr<|Rm Y<|Rl tZ_5 Xf Y<|R2 ZT Y<|Za<|K2 0 9 Y<|If h Y (fun h=>?_) fun h=>?_
 ·
  refine K0<|Tr<|Ra Y<|Ra Y<|Ra Y<|Za<|?_
  obtain rfl := rt h
  exact Zp (Z5 Y (.three (rb Y) (rb Y)<|rb Y))
 ·
  refine Zh<|K1 0 Y<|Tr<|Rm Y<|bE h fun l h_l h=>Rq Y (ZjK (ov Y) Xf on (oi<|ov Y) h_l)<|bE h fun v h_v h=>Rq Y (ZlX (f := C5) (ov Y) ZjT tZ_5 Y h_v)<|Ra Y<|Za<|Zg<|K1 5 Y<|QL (cw := md0) (by kernel_rfl)<|D1 0 Zc Y<|D1 1 ZN Y<|bE h fun x h_x h=>Dq 2 Y (Xu (ov Y) (ov Y) ZjT h_x)<|Dq 3 Y (Zi (ov Y) tS5<|QF<|Jr (o := 0) (o' := ((Int.toNat 2) * 1)) (Zu arL)<|Jk h_x)<|Dq 4 Y (Qx (ov Y) tI5 tI3 Y)<|bE h fun q h_q h=>Dq 5 Y (ZeW (ov Y) (ov Y) h_q)<|D1 6 Zc Y<|D1 7 ZN Y<|bE h fun x2 h_x2 h=>Dq 8 Y (Xu (ov Y) (ov Y) ZjT h_x2)<|Dq 9 Y (Zi (ov Y) tS5<|QF<|Jr (o := 0) (o' := ((Int.toNat 3) * 1)) (Zu arL)<|Jk h_x2)<|Dq 10 Y (Qx (ov Y) tI5 tI3 Y)<|bE h fun q2 h_q2 h=>Dq 11 Y (ZeW (ov Y) (ov Y) h_q2)<|D2 12 ZgI Y<|D1 13 Zc Y<|D1 14 ZN Y<|bE h fun x3 h_x3 h=>Dq 15 Y (Xu (ov Y) (ov Y) ZjT h_x3)<|Dq 16 Y (Zi (ov Y) tS5<|QF<|Jr (o := 0) (o' := ((Int.toNat 4) * 1)) (Zu arL)<|Jk h_x3)<|Dq 17 Y (Qx (ov Y) tI5 tI3 Y)<|bE h fun q3 h_q3 h=>Dq 18 Y (ZeW (ov Y) (ov Y) h_q3)<|D2 19 ZgI Y<|D1 20 Zc Y<|D1 21 ZN Y<|bE h fun x4 h_x4 h=>Dq 22 Y (Xu (ov Y) (ov Y) ZjT h_x4)<|Dq 23 Y (Zi (ov Y) tS5<|QF<|Jr (o := 0) (o' := ((Int.toNat 5) * 1)) (Zu arL)<|Jk h_x4)<|Dq 24 Y (Qx (ov Y) tI5 tI3 Y)<|D2 25 ZgI Y<|D1 26 QN Y<|Dd<|Zg<|Zg<|K2 5 6 Y<|QL (cw := md0) (by kernel_rfl)<|D1 0 Zc Y<|bE h fun y h_y h=>Dq 1 Y (Zt (QQ h_y)<|.cons (ov Y) (.b Y)<|.cons (ov Y) (.b Y)<|.cons (ov Y) (.b Y) .nil)<|D1 2 J9 Y<|D1 3 Zc Y<|Dq 4 Y (.guarded ((!y) == false) Y Y Y Y fun h => Zc<|ov Y)<|Dq 5 Y (.guarded ((!y) == false) Y Y Y Y fun h => ZN<|ow Y h)<|bE h fun l2 h_l2 h=>Dq 6 Y (.guarded ((!y) == false) Y Y Y Y fun h => Zmo (f := C5) (ow Y h) ZjT tZ_5 (Zu arL) Y on (oi<|ov Y)<|gdT h_l2 h)<|Dq 7 Y (.guarded ((!y) == false) Y Y Y Y fun h => Zc<|ov Y)<|bE h fun y2 h_y2 h=>Dq 8 Y (.guarded ((!y) == false) Y Y Y Y fun h => Zt (ZfR<|gdT h_y2 h)<|.cons (ow Y h) (.b Y) .nil)<|bE h fun y3 h_y3 h=>Dq 9 Y (.guarded ((!y) == false) Y Y Y Y fun h => Zt (Zee<|gdT h_y3 h)<|.cons (ow Y h) (.b Y)<|.cons (ow Y h) (.b Y) .nil)<|Dq 10 Y (.guarded ((!y) == false) Y Y Y Y fun h => J9<|ow Y h)<|Dq 11 Y (Zgu (ov Y) fun hp=>ow Y<|gF hp)<|Dd<|K3 5 6 50 Y<|If h Y (fun h=>?_) fun h=>?_
  ·
   refine K0<|Tr<|Ra Y<|Ra Y<|Ra Y<|Za<|?_
   obtain rfl := rt h
   exact Zp (Z5 Y (.three (rb Y) (rb Y)<|rb Y))
  ·
   refine Zh<|Zg<|K2 5 6 Y<|QL (cw := md0) (by kernel_rfl)<|D1 0 Zc Y<|D1 1 Zc Y<|D1 2 ZN Y<|bE h fun x5 h_x5 h=>Dq 3 Y (Xu (ov Y) (ov Y) ZjT h_x5)<|Dq 4 Y (Zi (ov Y) tS5<|QF<|Jr (o := 0) (o' := ((Int.toNat 10) * 1)) (Zu arL)<|Jk h_x5)<|D2 5 Jv Y<|D1 6 QN Y<|D1 7 QN Y<|D1 8 QN Y<|Dd<|?_
   obtain rfl := rt h
   exact Zp (Z5 Y (.three (rb Y) (rb Y)<|rb Y))
theorem Jl {data : List Int} {a : Int} {b : Int} {cmp : Int → Int → Option Int} {r : (List Int)} {cmp_f : FuncId} {cmp_c : List AV} (cmp_d : cmp_c.all datB = true) (cmp_h : ∀ (z0 : Int) (z1 : Int) z, cmp z0 z1 = some z → CSpec Tryd.prog gl0 cmp_f ([.int .i64 z0, .int .i64 z1] ++ cmp_c) (.int .i64 z)) (h : Zx data a b cmp = some r) :
 GSpec Tryd.prog gl0 96 [.own 0 data.length, .int .i64 a, .int .i64 b, .fn cmp_f cmp_c] [some ⟨3, List.map R3 data⟩] (.tuple []) [some ⟨3, List.map R3 r⟩] := by
 unfold Zx at h
 replace h := QO h
 refine Q0 (by kernel_rfl) Tryd.func96 Y Y<|?_
 intro w0 A W φ0
 refine Tr<|Rm Y<|R2 ZU Y<|Ra Y<|Za<|Zf<|?_
 obtain ⟨r1, hl1, ho1⟩ := Xm h
 refine L2 (fun o i=>⟨[(0, .own 0 o.length), (1, .int .i64 a), (2, .int .i64 b), (3, .fn cmp_f cmp_c), (8, .int .i64 i)], [some ⟨3, List.map R3 o⟩]⟩) hl1 (ES [some 0]<|sr 0 Y (.own _ Y)<|sd 1 Y Y<|sd 2 Y Y<|sr 3 Y (rFn<|rld cmp_d)<|sd 8 Y Y sn) fun n1 o i h=>?_
 unfold Zr at h
 refine Zg<|Tr<|Rm Y<|Rm Y<|R2 ZT Y<|Za<|K6 0 1 2 3 8 14 Y<|If h Y (fun h=>?_) fun h=>?_
 ·
  refine Zh<|I1 (fun o2=>⟨[(0, .own 0 o2.length), (1, .int .i64 a), (2, .int .i64 b), (3, .fn cmp_f cmp_c), (8, .int .i64 i)], [some ⟨3, List.map R3 o2⟩]⟩) h (fun h=>?_) fun o2 h=>?_
  ·
   refine Zf<|K5 0 1 2 3 8 Y<|Tr<|Rm Y<|Ra Y<|Za<|Zf<|?_
   obtain ⟨r2, hl2, ho2⟩ := Xm h
   refine L2 (fun o3 j=>⟨[(0, .own 0 o3.length), (1, .int .i64 a), (2, .int .i64 b), (3, .fn cmp_f cmp_c), (8, .int .i64 i), (9, .int .i64 j)], [some ⟨3, List.map R3 o3⟩]⟩) hl2 (ES [some 0]<|sr 0 Y (.own _ Y)<|sd 1 Y Y<|sd 2 Y Y<|sr 3 Y (rFn<|rld cmp_d)<|sd 8 Y Y<|sd 9 Y Y sn) fun n2 o3 j h=>?_
   unfold Zw at h
   refine Zg<|Zg<|QL (cw := md0) (by kernel_rfl)<|D1 0 Zc Y<|D1 1 Zc Y<|D2 2 Zde Y<|D1 3 Zc Y<|Dq 4 Y (.guarded ((decide (a < j)) == true) Y Y Y Y fun h => Zc<|ov Y)<|Dq 5 Y (.guarded ((decide (a < j)) == true) Y Y Y Y fun h => Zc<|ov Y)<|Dq 6 Y (.guarded ((decide (a < j)) == true) Y Y Y Y fun h => Zc<|ov Y)<|bE h fun x h_x h=>Dq 7 Y (.guarded ((decide (a < j)) == true) Y Y Y Y fun h => QA (ow Y h) (ow Y h) Xg Y Y<|gdT h_x h)<|Dq 8 Y (.guarded ((decide (a < j)) == true) Y Y Y Y fun h => QE (ow Y h) Y Y (gdT h_x h) tS3 Y)<|Dq 9 Y (.guarded ((decide (a < j)) == true) Y Y Y Y fun h => Zc<|ov Y)<|Dq 10 Y (.guarded ((decide (a < j)) == true) Y Y Y Y fun h => Zc<|ov Y)<|Dq 11 Y (.guarded ((decide (a < j)) == true) Y Y Y Y fun h => ZmJ (ow Y h) (ov Y) Y)<|bE h fun x2 h_x2 h=>Dq 12 Y (.guarded ((decide (a < j)) == true) Y Y Y Y fun h => QA (ow Y h) (ow Y h) Xg Y Y<|gdT h_x2 h)<|Dq 13 Y (.guarded ((decide (a < j)) == true) Y Y Y Y fun h => QE (ow Y h) Y Y (gdT h_x2 h) tS3 Y)<|bE h fun y h_y h=>Dq 14 Y (.guarded ((decide (a < j)) == true) Y Y Y Y fun h => Zfe (ow Y h) cmp_d (cmp_h _ _ _<|gdT h_y h)<|.cons (ow Y h) (.b Y)<|.cons (ow Y h) (.b Y) .nil)<|Dq 15 Y (.guarded ((decide (a < j)) == true) Y Y Y Y fun h => ZT (ow Y h)<|ov Y)<|Dq 16 Y (Zdj (ov Y) fun hp=>ow Y<|gT hp)<|Dd<|K7 0 1 2 3 8 9 34 Y<|If h Y (fun h=>?_) fun h=>?_
   ·
    exact Zh<|Zg<|Zf<|K6 0 1 2 3 8 9 Y<|QL (cw := md0) (by kernel_rfl)<|D1 0 Zc Y<|D1 1 Zc Y<|D1 5 Zc Y<|D1 6 Zc Y<|D2 7 Zcq Y<|bE h fun x3 h_x3 h=>Dq 8 Y (QA (ov Y) (ov Y) Xg Y Y h_x3)<|Dq 9 Y (QE (ov Y) Y Y h_x3 tS3 Y)<|D1 10 Zc Y<|D1 11 Zc Y<|bE h fun x4 h_x4 h=>Dq 12 Y (QA (ov Y) (ov Y) Xg Y Y h_x4)<|Dq 13 Y (QE (ov Y) Y Y h_x4 tS3 Y)<|bE h fun x5 h_x5 h=>Dq 14 Y (QA (ov Y) (ov Y) Xg Y Y h_x5)<|ZZ 2 _ Y (by kernel_rfl) Y Y (fun hp'=>Zc<|ov Y)<|ZZ 3 _ Y (by kernel_rfl) Y Y (fun hp'=>Zc<|ov Y)<|ZZ 4 _ Y (by kernel_rfl) Y Y (fun hp'=>ZmJ (ov Y) (ov Y) Y)<|Do 15 Y (Jm (u' := x3) (ov Y) (ov Y) (Ze tS3) Y Y h_x5 Y (Zb Y) Y)<|bE h fun x6 h_x6 h=>Dq 16 Y (QA (ov Y) (ov Y) Xg Y ((List.length_set ..).trans Y) h_x6)<|Do 17 Y (Jm (u' := x4) (ov Y) (ov Y) (Ze tS3) Y ((List.length_set ..).trans Y) h_x6 Y (Zb Y) Y)<|Dd<|K6 0 1 2 3 8 9 Y<|Zs<|Rm Y<|R2 Zcq Y<|Ra Y<|Za<|⟨_, h, ES [some 0]<|sr 0 Y (Zds (Eq.symm<|(List.length_set ..).trans<|(List.length_set ..).trans Y) Y)<|sd 1 Y Y<|sd 2 Y Y<|sr 3 Y (rFn<|rld cmp_d)<|sd 8 Y Y<|sd 9 Y Y sn⟩
   ·
    refine ZM<|?_
    replace h := lx h ▸ ho2
    exact ⟨_, h, ES [some 0]<|sr 0 Y (.own _ Y)<|sd 1 Y Y<|sd 2 Y Y<|sr 3 Y (rFn<|rld cmp_d)<|sd 8 Y Y sn⟩
  ·
   exact Zs<|Rm Y<|R2 ZU Y<|Ra Y<|Za<|⟨_, h, ES [some 0]<|sr 0 Y (.own _ Y)<|sd 1 Y Y<|sd 2 Y Y<|sr 3 Y (rFn<|rld cmp_d)<|sd 8 Y Y sn⟩
 ·
  refine ZM<|?_
  replace h := lx h ▸ ho1
  obtain rfl := rt h
  exact ZgG [some 0] Y .nil (.cons Y (roM D3) .nil) Y Y<|Xe rln
theorem XA {data : List Int} {a : Int} {b : Int} {n : Int} {cmp : Int → Int → Option Int} {r : (List Int)} {cmp_f : FuncId} {cmp_c : List AV} (cmp_d : cmp_c.all datB = true) (cmp_h : ∀ (z0 : Int) (z1 : Int) z, cmp z0 z1 = some z → CSpec Tryd.prog gl0 cmp_f ([.int .i64 z0, .int .i64 z1] ++ cmp_c) (.int .i64 z)) (h : ZG data a b n cmp = some r) :
 GSpec Tryd.prog gl0 106 [.own 0 data.length, .int .i64 a, .int .i64 b, .int .i64 n, .fn cmp_f cmp_c] [some ⟨3, List.map R3 data⟩] (.tuple []) [some ⟨3, List.map R3 r⟩] := by
 unfold ZG at h
 replace h := QO h
 refine Q0 (by kernel_rfl) Tryd.func106 Y Y<|?_
 intro w0 A W φ0
 refine K4 0 1 2 3 Y<|Tr<|Ra Y<|Za<|Zf<|?_
 obtain ⟨r1, hl1, ho1⟩ := Xm h
 refine L2 (fun o i=>⟨[(0, .own 0 o.length), (1, .int .i64 a), (2, .int .i64 b), (3, .int .i64 n), (10, .int .i64 i)], [some ⟨3, List.map R3 o⟩]⟩) hl1 (ES [some 0]) fun n1 o i h=>?_
 unfold ZS at h
 refine Zg<|Tr<|Rm Y<|Rm Y<|R2 ZT Y<|Za<|K6 0 1 2 3 10 13 Y<|If h Y (fun h=>?_) fun h=>?_
 ·
  exact Zh<|Zg<|Zf<|K5 0 1 2 3 10 Y<|QL (cw := md0) (by kernel_rfl)<|D1 0 Zc Y<|D1 1 Zc Y<|D1 2 Zc Y<|D2 3 ZU Y<|D1 8 Zc Y<|D1 9 Zc Y<|D1 10 Zc Y<|D2 11 ZU Y<|bE h fun x h_x h=>Dq 12 Y (QA (ov Y) (ov Y) Xg Y Y h_x)<|Dq 13 Y (QE (ov Y) Y Y h_x tS3 Y)<|D1 14 Zc Y<|D1 15 Zc Y<|D1 16 Zc Y<|D2 17 ZU Y<|bE h fun x2 h_x2 h=>Dq 18 Y (QA (ov Y) (ov Y) Xg Y Y h_x2)<|Dq 19 Y (QE (ov Y) Y Y h_x2 tS3 Y)<|bE h fun x3 h_x3 h=>Dq 20 Y (QA (ov Y) (ov Y) Xg Y Y h_x3)<|ZZ 4 _ Y (by kernel_rfl) Y Y (fun hp'=>Zc<|ov Y)<|ZZ 5 _ Y (by kernel_rfl) Y Y (fun hp'=>Zc<|ov Y)<|ZZ 6 _ Y (by kernel_rfl) Y Y (fun hp'=>Zc<|ov Y)<|ZZ 7 _ Y (by kernel_rfl) Y Y (fun hp'=>Zkl (ov Y) (ov Y) Y)<|Do 21 Y (Jm (u' := x) (ov Y) (ov Y) (Ze tS3) Y Y h_x3 Y (Zb Y) Y)<|bE h fun x4 h_x4 h=>Dq 22 Y (QA (ov Y) (ov Y) Xg Y ((List.length_set ..).trans Y) h_x4)<|Do 23 Y (Jm (u' := x2) (ov Y) (ov Y) (Ze tS3) Y ((List.length_set ..).trans Y) h_x4 Y (Zb Y) Y)<|Dd<|K5 0 1 2 3 10 Y<|Zs<|Rm Y<|R2 ZU Y<|Ra Y<|Za<|⟨_, h, ES [some 0]<|sr 0 Y (Zds (Eq.symm<|(List.length_set ..).trans<|(List.length_set ..).trans Y) Y)<|sd 1 Y Y<|sd 2 Y Y<|sd 3 Y Y<|sd 10 Y Y sn⟩
 ·
  refine ZM<|?_
  replace h := lx h ▸ ho1
  obtain rfl := rt h
  exact ZgG [some 0] Y .nil (.cons Y (roM D3) .nil) Y Y<|Xe rln
theorem ZdM {data : List Int} {a : Int} {m : Int} {b : Int} {cmp : Int → Int → Option Int} {r : (List Int)} {cmp_f : FuncId} {cmp_c : List AV} (cmp_d : cmp_c.all datB = true) (cmp_h : ∀ (z0 : Int) (z1 : Int) z, cmp z0 z1 = some z → CSpec Tryd.prog gl0 cmp_f ([.int .i64 z0, .int .i64 z1] ++ cmp_c) (.int .i64 z)) (h : Z4 data a m b cmp = some r) :
 GSpec Tryd.prog gl0 104 [.own 0 data.length, .int .i64 a, .int .i64 m, .int .i64 b, .fn cmp_f cmp_c] [some ⟨3, List.map R3 data⟩] (.tuple []) [some ⟨3, List.map R3 r⟩] := by
 unfold Z4 at h
 replace h := QO h
 refine Q0 (by kernel_rfl) Tryd.func104 Y Y<|?_
 intro w0 A W φ0
 refine Tr<|Rm Y<|Rm Y<|R2 Zcq Y<|Ra Y<|Za<|K5 0 2 3 4 10 Y<|Tr<|Rm Y<|Rm Y<|R2 Zcq Y<|Ra Y<|Za<|I2 (fun o i=>⟨[(0, .own 0 o.length), (2, .int .i64 m), (4, .fn cmp_f cmp_c), (10, .int .i64 i)], [some ⟨3, List.map R3 o⟩]⟩) h (fun h=>?_) fun o i h=>?_
 ·
  refine Zf<|?_
  obtain ⟨r1, hl1, ho1⟩ := Xm h
  refine L3 (fun o2 i2 j=>⟨[(0, .own 0 o2.length), (2, .int .i64 m), (4, .fn cmp_f cmp_c), (10, .int .i64 i2), (11, .int .i64 j)], [some ⟨3, List.map R3 o2⟩]⟩) hl1 (ES [some 0]<|sr 0 Y (.own _ Y)<|sd 2 Y Y<|sr 4 Y (rFn<|rld cmp_d)<|sd 10 Y Y<|sd 11 Y Y sn) fun n1 o2 i2 j h=>?_
  unfold Z0 at h
  refine Zg<|Tr<|Rm Y<|Rm Y<|R2 Jv Y<|Za<|K6 0 2 4 10 11 20 Y<|If h Y (fun h=>?_) fun h=>?_
  ·
   refine Zh<|Zf<|K5 0 2 4 10 11 Y<|Tr<|Rm Y<|Rm Y<|R2 Zde Y<|Za<|K6 0 2 4 10 11 23 Y<|If h Y (fun h=>?_) fun h=>?_
   ·
    exact K5 0 2 4 10 11 Y<|Tr<|Rm Y<|Rm Y<|Rm Y<|R2 Zcq Y<|Rm Y<|Rm Y<|Rm Y<|bE h fun y h_y h=>Rx Y (ZE [0] (XA cmp_d cmp_h h_y) (.cons (ov Y) (.own _ Y)<|.cons (ov Y) (.dat Y)<|.cons (ov Y) (.dat Y)<|.cons (ov Y) (.dat Y)<|.cons (ov Y) (rFn<|rld cmp_d) .nil) (.cons Y (roM D3) .nil) Y (.lent 0 (.inl Y) Y (roM D3) .nil) Y Y<|Xe<|rld Y)<|Za<|K5 0 2 4 10 11 Y<|Zs<|Rm Y<|Rm Y<|R2 Zcq Y<|Ra Y<|Za<|⟨_, h, ES [some 0]<|sr 0 Y (Zds (Eq.symm<|Qk h_y) Y)<|sd 2 Y Y<|sr 4 Y (rFn<|rld cmp_d)<|sd 10 Y Y<|sd 11 Y Y sn⟩
   ·
    exact K5 0 2 4 10 11 Y<|Tr<|Rm Y<|Rm Y<|Rm Y<|R2 Zcq Y<|Rm Y<|Rm Y<|R2 ZU Y<|Rm Y<|R2 Zcq Y<|Rm Y<|Rm Y<|bE h fun y2 h_y2 h=>Rx Y (ZE [0] (XA cmp_d cmp_h h_y2) (.cons (ov Y) (.own _ Y)<|.cons (ov Y) (.dat Y)<|.cons (ov Y) (.dat Y)<|.cons (ov Y) (.dat Y)<|.cons (ov Y) (rFn<|rld cmp_d) .nil) (.cons Y (roM D3) .nil) Y (.lent 0 (.inl Y) Y (roM D3) .nil) Y Y<|Xe<|rld Y)<|Za<|K5 0 2 4 10 11 Y<|Zs<|Rm Y<|Rm Y<|R2 Zcq Y<|Ra Y<|Za<|⟨_, h, ES [some 0]<|sr 0 Y (Zds (Eq.symm<|Qk h_y2) Y)<|sd 2 Y Y<|sr 4 Y (rFn<|rld cmp_d)<|sd 10 Y Y<|sd 11 Y Y sn⟩
  ·
   refine ZM<|?_
   replace h := lx h ▸ ho1
   exact ⟨_, h, ES [some 0]<|sr 0 Y (.own _ Y)<|sd 2 Y Y<|sr 4 Y (rFn<|rld cmp_d)<|sd 10 Y Y sn⟩
 ·
  refine Zs<|Rm Y<|Rm Y<|Rm Y<|R2 Zcq Y<|Rm Y<|Rm Y<|Rm Y<|bE h fun y3 h_y3 h=>Rx Y (ZE [0] (XA cmp_d cmp_h h_y3) (.cons (ov Y) (.own _ Y)<|.cons (ov Y) (.dat Y)<|.cons (ov Y) (.dat Y)<|.cons (ov Y) (.dat Y)<|.cons (ov Y) (rFn<|rld cmp_d) .nil) (.cons Y (roM D3) .nil) Y (.lent 0 (.inl Y) Y (roM D3) .nil) Y Y<|Xe<|rld Y)<|Za<|?_
  obtain rfl := rt h
  exact ZgG [some 0] Y .nil (.cons Y (roM D3) .nil) Y Y<|Xe rln
theorem Zcr {rec_ : List Int → Int → Int → Int → (Int → Int → Option Int) → Option (List Int)} {data : List Int} {a : Int} {m : Int} {b : Int} {cmp : Int → Int → Option Int} {r : (List Int)} {cmp_f : FuncId} {cmp_c : List AV} (cmp_d : cmp_c.all datB = true) (cmp_h : ∀ (z0 : Int) (z1 : Int) z, cmp z0 z1 = some z → CSpec Tryd.prog gl0 cmp_f ([.int .i64 z0, .int .i64 z1] ++ cmp_c) (.int .i64 z)) (ln_rec_ : ∀ {data : List Int} {a : Int} {m : Int} {b : Int} {cmp : Int → Int → Option Int} {r : (List Int)}, rec_ data a m b cmp = some r → r.length = data.length) (hrec : ∀ {data : List Int} {a : Int} {m : Int} {b : Int} {cmp : Int → Int → Option Int} {r : (List Int)} {cmp_f : FuncId} {cmp_c : List AV} (cmp_d : cmp_c.all datB = true) (cmp_h : ∀ (z0 : Int) (z1 : Int) z, cmp z0 z1 = some z → CSpec Tryd.prog gl0 cmp_f ([.int .i64 z0, .int .i64 z1] ++ cmp_c) (.int .i64 z)) (h : rec_ data a m b cmp = some r), GSpec Tryd.prog gl0 97 [.own 0 data.length, .int .i64 a, .int .i64 m, .int .i64 b, .fn cmp_f cmp_c] [some ⟨3, List.map R3 data⟩] (.tuple []) [some ⟨3, List.map R3 r⟩]) (h : ZY rec_ data a m b cmp = some r) :
 GSpec Tryd.prog gl0 97 [.own 0 data.length, .int .i64 a, .int .i64 m, .int .i64 b, .fn cmp_f cmp_c] [some ⟨3, List.map R3 data⟩] (.tuple []) [some ⟨3, List.map R3 r⟩] := by
 unfold ZY at h
 replace h := QO h
 refine Q0 (by kernel_rfl) Tryd.func97 Y Y<|?_
 intro w0 A W φ0
 refine Zg<|Tr<|Rm Y<|Rm Y<|R2 Zcq Y<|R2 Zdf Y<|Za<|K6 0 1 2 3 4 28 Y<|If h Y (fun h=>?_) fun h=>?_
 ·
  refine K5 0 1 2 3 4 Y<|Tr<|Rm Y<|Ra Y<|Za<|K5 0 1 3 4 10 Y<|Tr<|Rm Y<|Ra Y<|Za<|I1 (fun i=>⟨[(0, .own 0 data.length), (1, .int .i64 a), (10, .int .i64 i)], [some ⟨3, List.map R3 data⟩]⟩) h (fun h=>?_) fun i h=>?_
  ·
   refine Zf<|?_
   obtain ⟨r1, hl1, ho1⟩ := Xm h
   refine L2 (fun i2 j=>⟨[(0, .own 0 data.length), (1, .int .i64 a), (4, .fn cmp_f cmp_c), (10, .int .i64 i2), (11, .int .i64 j)], [some ⟨3, List.map R3 data⟩]⟩) hl1 (ES [some 0]<|sr 0 Y (.own _ Y)<|sd 1 Y Y<|sr 4 Y (rFn<|rld cmp_d)<|sd 10 Y Y<|sd 11 Y Y sn) fun n1 i2 j h=>?_
   unfold Z6 at h
   refine Zg<|Tr<|Rm Y<|Rm Y<|R2 ZT Y<|Za<|K6 0 1 4 10 11 33 Y<|If h Y (fun h=>?_) fun h=>?_
   ·
    refine Zh<|Zf<|K5 0 1 4 10 11 Y<|Tr<|Rm Y<|Rm Y<|R2 ZU Y<|Rq Y (Qx (ov Y) tI3 ZfQ Y)<|bE h fun q h_q h=>Rq Y (Zbf (ov Y) (ov Y) h_q)<|Rq Y (Qx (ov Y) ZfQ tI3 Y)<|Ra Y<|Za<|Zg<|K6 0 1 4 10 11 12 Y<|QL (cw := md0) (by kernel_rfl)<|D1 0 Zc Y<|D1 1 Zc Y<|D1 2 Zc Y<|bE h fun x h_x h=>Dq 3 Y (QA (ov Y) (ov Y) Xg Y Y h_x)<|Dq 4 Y (QE (ov Y) Y Y h_x tS3 Y)<|D1 5 Zc Y<|D1 6 Zc Y<|bE h fun x2 h_x2 h=>Dq 7 Y (QA (ov Y) (ov Y) Xg Y Y h_x2)<|Dq 8 Y (QE (ov Y) Y Y h_x2 tS3 Y)<|bE h fun y h_y h=>Dq 9 Y (Zfe (ov Y) cmp_d (cmp_h _ _ _ h_y)<|.cons (ov Y) (.b Y)<|.cons (ov Y) (.b Y) .nil)<|D2 10 ZT Y<|Dd<|K7 0 1 4 10 11 12 50 Y<|If h Y (fun h=>?_) fun h=>?_
    ·
     exact K6 0 1 4 10 11 12 Y<|Zs<|Rm Y<|R2 ZU Y<|Ra Y<|Za<|⟨_, h, ES [some 0]<|sr 0 Y (.own _ Y)<|sd 1 Y Y<|sr 4 Y (rFn<|rld cmp_d)<|sd 10 Y Y<|sd 11 Y Y sn⟩
    ·
     exact K6 0 1 4 10 11 12 Y<|Zs<|Rm Y<|Ra Y<|Za<|⟨_, h, ES [some 0]<|sr 0 Y (.own _ Y)<|sd 1 Y Y<|sr 4 Y (rFn<|rld cmp_d)<|sd 10 Y Y<|sd 11 Y Y sn⟩
   ·
    refine ZM<|?_
    replace h := lx h ▸ ho1
    exact ⟨_, h, ES [some 0]⟩
  ·
   refine I1 (fun o=>⟨[], [some ⟨3, List.map R3 o⟩]⟩) h (fun h=>?_) fun o h=>?_
   ·
    refine Tr<|Rm Y<|Ra Y<|Za<|Zf<|?_
    obtain ⟨r2, hl2, ho2⟩ := Xm h
    refine L2 (fun o2 k=>⟨[(0, .own 0 o2.length), (10, .int .i64 i), (13, .int .i64 k)], [some ⟨3, List.map R3 o2⟩]⟩) hl2 (ES [some 0]) fun n2 o2 k h=>?_
    unfold ZJ at h
    refine Zg<|Tr<|Rm Y<|Rm Y<|R2 Zcq Y<|R2 ZT Y<|Za<|K4 0 10 13 58 Y<|If h Y (fun h=>?_) fun h=>?_
    ·
     exact Zh<|Zg<|Zf<|K3 0 10 13 Y<|QL (cw := md0) (by kernel_rfl)<|D1 0 Zc Y<|D1 1 Zc Y<|D1 5 Zc Y<|D1 6 Zc Y<|D2 7 ZU Y<|bE h fun x3 h_x3 h=>Dq 8 Y (QA (ov Y) (ov Y) Xg Y Y h_x3)<|Dq 9 Y (QE (ov Y) Y Y h_x3 tS3 Y)<|D1 10 Zc Y<|D1 11 Zc Y<|bE h fun x4 h_x4 h=>Dq 12 Y (QA (ov Y) (ov Y) Xg Y Y h_x4)<|Dq 13 Y (QE (ov Y) Y Y h_x4 tS3 Y)<|bE h fun x5 h_x5 h=>Dq 14 Y (QA (ov Y) (ov Y) Xg Y Y h_x5)<|ZZ 2 _ Y (by kernel_rfl) Y Y (fun hp'=>Zc<|ov Y)<|ZZ 3 _ Y (by kernel_rfl) Y Y (fun hp'=>Zc<|ov Y)<|ZZ 4 _ Y (by kernel_rfl) Y Y (fun hp'=>Zkl (ov Y) (ov Y) Y)<|Do 15 Y (Jm (u' := x3) (ov Y) (ov Y) (Ze tS3) Y Y h_x5 Y (Zb Y) Y)<|bE h fun x6 h_x6 h=>Dq 16 Y (QA (ov Y) (ov Y) Xg Y ((List.length_set ..).trans Y) h_x6)<|Do 17 Y (Jm (u' := x4) (ov Y) (ov Y) (Ze tS3) Y ((List.length_set ..).trans Y) h_x6 Y (Zb Y) Y)<|Dd<|K3 0 10 13 Y<|Zs<|Rm Y<|R2 ZU Y<|Ra Y<|Za<|⟨_, h, ES [some 0]<|sr 0 Y (Zds (Eq.symm<|(List.length_set ..).trans<|(List.length_set ..).trans Y) Y)<|sd 10 Y Y<|sd 13 Y Y sn⟩
    ·
     refine ZM<|?_
     replace h := lx h ▸ ho2
     exact ⟨_, h, ES [some 0]⟩
   ·
    obtain rfl := rt h
    exact Zp<|Za0 [some 0] Y .nil (.cons Y (roM D3) .nil) Y Y<|Xe rln
 ·
  refine Zh<|Zg<|K5 0 1 2 3 4 Y<|Tr<|Rm Y<|Rm Y<|R2 Zcq Y<|R2 Zdf Y<|Za<|K6 0 1 2 3 4 80 Y<|If h Y (fun h=>?_) fun h=>?_
  ·
   refine K4 0 1 2 4 Y<|Tr<|Rm Y<|Ra Y<|Za<|K4 0 2 4 14 Y<|Tr<|Rm Y<|Ra Y<|Za<|I1 (fun i3=>⟨[(0, .own 0 data.length), (2, .int .i64 m), (14, .int .i64 i3)], [some ⟨3, List.map R3 data⟩]⟩) h (fun h=>?_) fun i3 h=>?_
   ·
    refine Zf<|?_
    obtain ⟨r3, hl3, ho3⟩ := Xm h
    refine L2 (fun i4 j2=>⟨[(0, .own 0 data.length), (2, .int .i64 m), (4, .fn cmp_f cmp_c), (14, .int .i64 i4), (15, .int .i64 j2)], [some ⟨3, List.map R3 data⟩]⟩) hl3 (ES [some 0]<|sr 0 Y (.own _ Y)<|sd 2 Y Y<|sr 4 Y (rFn<|rld cmp_d)<|sd 14 Y Y<|sd 15 Y Y sn) fun n3 i4 j2 h=>?_
    unfold Z7 at h
    refine Zg<|Tr<|Rm Y<|Rm Y<|R2 ZT Y<|Za<|K6 0 2 4 14 15 85 Y<|If h Y (fun h=>?_) fun h=>?_
    ·
     refine Zh<|Zf<|K5 0 2 4 14 15 Y<|Tr<|Rm Y<|Rm Y<|R2 ZU Y<|Rq Y (Qx (ov Y) tI3 ZfQ Y)<|bE h fun q2 h_q2 h=>Rq Y (Zbf (ov Y) (ov Y) h_q2)<|Rq Y (Qx (ov Y) ZfQ tI3 Y)<|Ra Y<|Za<|Zg<|K6 0 2 4 14 15 16 Y<|QL (cw := md0) (by kernel_rfl)<|D1 0 Zc Y<|D1 1 Zc Y<|D1 2 Zc Y<|bE h fun x7 h_x7 h=>Dq 3 Y (QA (ov Y) (ov Y) Xg Y Y h_x7)<|Dq 4 Y (QE (ov Y) Y Y h_x7 tS3 Y)<|D1 5 Zc Y<|D1 6 Zc Y<|bE h fun x8 h_x8 h=>Dq 7 Y (QA (ov Y) (ov Y) Xg Y Y h_x8)<|Dq 8 Y (QE (ov Y) Y Y h_x8 tS3 Y)<|bE h fun y2 h_y2 h=>Dq 9 Y (Zfe (ov Y) cmp_d (cmp_h _ _ _ h_y2)<|.cons (ov Y) (.b Y)<|.cons (ov Y) (.b Y) .nil)<|D2 10 ZT Y<|D1 11 J9 Y<|Dd<|K7 0 2 4 14 15 16 103 Y<|If h Y (fun h=>?_) fun h=>?_
     ·
      exact K6 0 2 4 14 15 16 Y<|Zs<|Rm Y<|R2 ZU Y<|Ra Y<|Za<|⟨_, h, ES [some 0]<|sr 0 Y (.own _ Y)<|sd 2 Y Y<|sr 4 Y (rFn<|rld cmp_d)<|sd 14 Y Y<|sd 15 Y Y sn⟩
     ·
      exact K6 0 2 4 14 15 16 Y<|Zs<|Rm Y<|Ra Y<|Za<|⟨_, h, ES [some 0]<|sr 0 Y (.own _ Y)<|sd 2 Y Y<|sr 4 Y (rFn<|rld cmp_d)<|sd 14 Y Y<|sd 15 Y Y sn⟩
    ·
     refine ZM<|?_
     replace h := lx h ▸ ho3
     exact ⟨_, h, ES [some 0]⟩
   ·
    refine I1 (fun o3=>⟨[], [some ⟨3, List.map R3 o3⟩]⟩) h (fun h=>?_) fun o3 h=>?_
    ·
     refine Tr<|Rm Y<|Ra Y<|Za<|Zf<|?_
     obtain ⟨r4, hl4, ho4⟩ := Xm h
     refine L2 (fun o4 k2=>⟨[(0, .own 0 o4.length), (14, .int .i64 i3), (17, .int .i64 k2)], [some ⟨3, List.map R3 o4⟩]⟩) hl4 (ES [some 0]) fun n4 o4 k2 h=>?_
     unfold ZL at h
     refine Zg<|Tr<|Rm Y<|Rm Y<|R2 Zde Y<|Za<|K4 0 14 17 110 Y<|If h Y (fun h=>?_) fun h=>?_
     ·
      exact Zh<|Zg<|Zf<|K3 0 14 17 Y<|QL (cw := md0) (by kernel_rfl)<|D1 0 Zc Y<|D1 1 Zc Y<|D1 5 Zc Y<|D1 6 Zc Y<|D2 7 Zcq Y<|bE h fun x9 h_x9 h=>Dq 8 Y (QA (ov Y) (ov Y) Xg Y Y h_x9)<|Dq 9 Y (QE (ov Y) Y Y h_x9 tS3 Y)<|D1 10 Zc Y<|D1 11 Zc Y<|bE h fun x10 h_x10 h=>Dq 12 Y (QA (ov Y) (ov Y) Xg Y Y h_x10)<|Dq 13 Y (QE (ov Y) Y Y h_x10 tS3 Y)<|bE h fun x11 h_x11 h=>Dq 14 Y (QA (ov Y) (ov Y) Xg Y Y h_x11)<|ZZ 2 _ Y (by kernel_rfl) Y Y (fun hp'=>Zc<|ov Y)<|ZZ 3 _ Y (by kernel_rfl) Y Y (fun hp'=>Zc<|ov Y)<|ZZ 4 _ Y (by kernel_rfl) Y Y (fun hp'=>ZmJ (ov Y) (ov Y) Y)<|Do 15 Y (Jm (u' := x9) (ov Y) (ov Y) (Ze tS3) Y Y h_x11 Y (Zb Y) Y)<|bE h fun x12 h_x12 h=>Dq 16 Y (QA (ov Y) (ov Y) Xg Y ((List.length_set ..).trans Y) h_x12)<|Do 17 Y (Jm (u' := x10) (ov Y) (ov Y) (Ze tS3) Y ((List.length_set ..).trans Y) h_x12 Y (Zb Y) Y)<|Dd<|K3 0 14 17 Y<|Zs<|Rm Y<|R2 Zcq Y<|Ra Y<|Za<|⟨_, h, ES [some 0]<|sr 0 Y (Zds (Eq.symm<|(List.length_set ..).trans<|(List.length_set ..).trans Y) Y)<|sd 14 Y Y<|sd 17 Y Y sn⟩
     ·
      refine ZM<|?_
      replace h := lx h ▸ ho4
      exact ⟨_, h, ES [some 0]⟩
    ·
     obtain rfl := rt h
     exact Zp<|Za0 [some 0] Y .nil (.cons Y (roM D3) .nil) Y Y<|Xe rln
  ·
   refine Zh<|K5 0 1 2 3 4 Y<|Tr<|Rm Y<|Rm Y<|R2 ZU Y<|Rq Y (Qx (ov Y) tI3 ZfQ Y)<|bE h fun q3 h_q3 h=>Rq Y (Zbf (ov Y) (ov Y) h_q3)<|Rq Y (Qx (ov Y) ZfQ tI3 Y)<|Ra Y<|Za<|K6 0 1 2 3 4 18 Y<|Tr<|Rm Y<|Rm Y<|R2 ZU Y<|Ra Y<|Za<|K7 0 1 2 3 4 18 19 Y<|Tr<|Ra Y<|Ra Y<|Za<|I2 (fun start r_=>⟨[(0, .own 0 data.length), (1, .int .i64 a), (2, .int .i64 m), (3, .int .i64 b), (4, .fn cmp_f cmp_c), (18, .int .i64 (i64 q3)), (19, .int .i64 (i64 ((i64 q3) + m))), (20, .int .i64 start), (21, .int .i64 r_)], [some ⟨3, List.map R3 data⟩]⟩) h (fun h=>?_) fun start r_ h=>?_
   ·
    refine K7 0 1 2 3 4 18 19 Y<|Tr<|Rm Y<|Rm Y<|R2 Zde Y<|Za<|K8 0 1 2 3 4 18 19 140 Y<|If h Y (fun h=>?_) fun h=>?_
    ·
     exact K7 0 1 2 3 4 18 19 Y<|Tr<|Rm Y<|Rm Y<|R2 Zcq Y<|Ra Y<|Za<|K8 0 1 2 3 4 18 19 20 Y<|Zs<|Rm Y<|Ra Y<|Za<|⟨_, h, ES [some 0]<|sr 0 Y (.own _ Y)<|sd 1 Y Y<|sd 2 Y Y<|sd 3 Y Y<|sr 4 Y (rFn<|rld cmp_d)<|sd 18 Y Y<|sd 19 Y Y<|sd 20 Y Y<|sd 21 Y Y sn⟩
    ·
     exact K7 0 1 2 3 4 18 19 Y<|Tr<|Rm Y<|Ra Y<|Za<|K8 0 1 2 3 4 18 19 20 Y<|Zs<|Rm Y<|Ra Y<|Za<|⟨_, h, ES [some 0]<|sr 0 Y (.own _ Y)<|sd 1 Y Y<|sd 2 Y Y<|sd 3 Y Y<|sr 4 Y (rFn<|rld cmp_d)<|sd 18 Y Y<|sd 19 Y Y<|sd 20 Y Y<|sd 21 Y Y sn⟩
   ·
    refine Tr<|Rm Y<|R2 Zcq Y<|Ra Y<|Za<|I1 (fun start2=>⟨[(0, .own 0 data.length), (1, .int .i64 a), (2, .int .i64 m), (3, .int .i64 b), (4, .fn cmp_f cmp_c), (18, .int .i64 (i64 q3)), (19, .int .i64 (i64 ((i64 q3) + m))), (20, .int .i64 start2)], [some ⟨3, List.map R3 data⟩]⟩) h (fun h=>?_) fun start2 h=>?_
    ·
     refine Zf<|?_
     obtain ⟨r5, hl5, ho5⟩ := Xm h
     refine L2 (fun start3 r_2=>⟨[(0, .own 0 data.length), (1, .int .i64 a), (2, .int .i64 m), (3, .int .i64 b), (4, .fn cmp_f cmp_c), (18, .int .i64 (i64 q3)), (19, .int .i64 (i64 ((i64 q3) + m))), (20, .int .i64 start3), (21, .int .i64 r_2), (22, .int .i64 (i64 ((i64 ((i64 q3) + m)) - 1)))], [some ⟨3, List.map R3 data⟩]⟩) hl5 (ES [some 0]<|sr 0 Y (.own _ Y)<|sd 1 Y Y<|sd 2 Y Y<|sd 3 Y Y<|sr 4 Y (rFn<|rld cmp_d)<|sd 18 Y Y<|sd 19 Y Y<|sd 20 Y Y<|sd 21 Y Y<|sd 22 Y Y sn) fun n5 start3 r_2 h=>?_
     unfold Qr at h
     refine Zg<|Tr<|Rm Y<|Rm Y<|R2 ZT Y<|Za<|K11 0 1 2 3 4 18 19 20 21 22 151 Y<|If h Y (fun h=>?_) fun h=>?_
     ·
      refine Zh<|Zf<|K10 0 1 2 3 4 18 19 20 21 22 Y<|Tr<|Rm Y<|Rm Y<|R2 ZU Y<|Rq Y (Qx (ov Y) tI3 ZfQ Y)<|bE h fun q4 h_q4 h=>Rq Y (Zbf (ov Y) (ov Y) h_q4)<|Rq Y (Qx (ov Y) ZfQ tI3 Y)<|Ra Y<|Za<|Zg<|K11 0 1 2 3 4 18 19 20 21 22 23 Y<|QL (cw := md0) (by kernel_rfl)<|D1 0 Zc Y<|D1 1 Zc Y<|D1 2 Zc Y<|D1 3 Zc Y<|D2 4 Zcq Y<|bE h fun x13 h_x13 h=>Dq 5 Y (QA (ov Y) (ov Y) Xg Y Y h_x13)<|Dq 6 Y (QE (ov Y) Y Y h_x13 tS3 Y)<|D1 7 Zc Y<|D1 8 Zc Y<|bE h fun x14 h_x14 h=>Dq 9 Y (QA (ov Y) (ov Y) Xg Y Y h_x14)<|Dq 10 Y (QE (ov Y) Y Y h_x14 tS3 Y)<|bE h fun y3 h_y3 h=>Dq 11 Y (Zfe (ov Y) cmp_d (cmp_h _ _ _ h_y3)<|.cons (ov Y) (.b Y)<|.cons (ov Y) (.b Y) .nil)<|D2 12 ZT Y<|D1 13 J9 Y<|Dd<|K12 0 1 2 3 4 18 19 20 21 22 23 171 Y<|If h Y (fun h=>?_) fun h=>?_
      ·
       exact K11 0 1 2 3 4 18 19 20 21 22 23 Y<|Zs<|Rm Y<|R2 ZU Y<|Ra Y<|Za<|⟨_, h, ES [some 0]<|sr 0 Y (.own _ Y)<|sd 1 Y Y<|sd 2 Y Y<|sd 3 Y Y<|sr 4 Y (rFn<|rld cmp_d)<|sd 18 Y Y<|sd 19 Y Y<|sd 20 Y Y<|sd 21 Y Y<|sd 22 Y Y sn⟩
      ·
       exact K11 0 1 2 3 4 18 19 20 21 22 23 Y<|Zs<|Rm Y<|Ra Y<|Za<|⟨_, h, ES [some 0]<|sr 0 Y (.own _ Y)<|sd 1 Y Y<|sd 2 Y Y<|sd 3 Y Y<|sr 4 Y (rFn<|rld cmp_d)<|sd 18 Y Y<|sd 19 Y Y<|sd 20 Y Y<|sd 21 Y Y<|sd 22 Y Y sn⟩
     ·
      refine ZM<|?_
      replace h := lx h ▸ ho5
      exact ⟨_, h, ES [some 0]<|sr 0 Y (.own _ Y)<|sd 1 Y Y<|sd 2 Y Y<|sd 3 Y Y<|sr 4 Y (rFn<|rld cmp_d)<|sd 18 Y Y<|sd 19 Y Y<|sd 20 Y Y sn⟩
    ·
     refine Tr<|Rm Y<|Rm Y<|R2 Zcq Y<|Ra Y<|Za<|I1 (fun o5=>⟨[(0, .own 0 o5.length), (1, .int .i64 a), (3, .int .i64 b), (4, .fn cmp_f cmp_c), (18, .int .i64 (i64 q3)), (20, .int .i64 start2), (24, .int .i64 (i64 ((i64 ((i64 q3) + m)) - start2)))], [some ⟨3, List.map R3 o5⟩]⟩) h (fun h=>?_) fun o5 h=>?_
     ·
      refine K8 0 1 2 3 4 18 20 24 Y<|Tr<|Rm Y<|Rm Y<|R2 ZT Y<|Rm Y<|Rq Y (.guarded ((decide (start2 < m)) == true) Y Y Y Y fun h => Zc<|ov Y)<|Rq Y (.guarded ((decide (start2 < m)) == true) Y Y Y Y fun h => Zc<|ov Y)<|Rq Y (.guarded ((decide (start2 < m)) == true) Y Y Y Y fun h => ZT (ow Y h)<|ow Y h)<|Rq Y (Zdj (ov Y) fun hp=>ow Y<|gT hp)<|Za<|K9 0 1 2 3 4 18 20 24 185 Y<|If h Y (fun h=>?_) fun h=>?_
      ·
       exact K8 0 1 2 3 4 18 20 24 Y<|Zs<|Rm Y<|Rm Y<|Rm Y<|Rm Y<|Rm Y<|bE h fun y4 h_y4 h=>Rx Y (ZE [0] (ZdM cmp_d cmp_h h_y4) (.cons (ov Y) (.own _ Y)<|.cons (ov Y) (.dat Y)<|.cons (ov Y) (.dat Y)<|.cons (ov Y) (.dat Y)<|.cons (ov Y) (rFn<|rld cmp_d) .nil) (.cons Y (roM D3) .nil) Y (.lent 0 (.inl Y) Y (roM D3) .nil) Y Y<|Xe<|rld Y)<|Za<|⟨_, h, ES [some 0]<|sr 0 Y (Zds (Eq.symm<|ZaJ h_y4) Y)<|sd 1 Y Y<|sd 3 Y Y<|sr 4 Y (rFn<|rld cmp_d)<|sd 18 Y Y<|sd 20 Y Y<|sd 24 Y Y sn⟩
      ·
       exact Zh<|⟨_, h, ES [some 0]<|sr 0 Y (.own _ Y)<|sd 1 Y Y<|sd 3 Y Y<|sr 4 Y (rFn<|rld cmp_d)<|sd 18 Y Y<|sd 20 Y Y<|sd 24 Y Y sn⟩
     ·
      refine I1 (fun o6=>⟨[(0, .own 0 o6.length), (3, .int .i64 b), (4, .fn cmp_f cmp_c), (18, .int .i64 (i64 q3)), (24, .int .i64 (i64 ((i64 ((i64 q3) + m)) - start2)))], [some ⟨3, List.map R3 o6⟩]⟩) h (fun h=>?_) fun o6 h=>?_
      ·
       refine Tr<|Rm Y<|Rm Y<|R2 ZT Y<|Rm Y<|Rq Y (.guarded ((decide (a < start2)) == true) Y Y Y Y fun h => Zc<|ov Y)<|Rq Y (.guarded ((decide (a < start2)) == true) Y Y Y Y fun h => Zc<|ov Y)<|Rq Y (.guarded ((decide (a < start2)) == true) Y Y Y Y fun h => ZT (ow Y h)<|ow Y h)<|Rq Y (Zdj (ov Y) fun hp=>ow Y<|gT hp)<|Za<|K8 0 1 3 4 18 20 24 199 Y<|If h Y (fun h=>?_) fun h=>?_
       ·
        exact K7 0 1 3 4 18 20 24 Y<|Zs<|Rm Y<|Rm Y<|Rm Y<|Rm Y<|Rm Y<|bE h fun y5 h_y5 h=>Rx Y (ZE [0] (hrec cmp_d cmp_h h_y5) (.cons (ov Y) (.own _ Y)<|.cons (ov Y) (.dat Y)<|.cons (ov Y) (.dat Y)<|.cons (ov Y) (.dat Y)<|.cons (ov Y) (rFn<|rld cmp_d) .nil) (.cons Y (roM D3) .nil) Y (.lent 0 (.inl Y) Y (roM D3) .nil) Y Y<|Xe<|rld Y)<|Za<|⟨_, h, ES [some 0]<|sr 0 Y (Zds (Eq.symm<|ln_rec_ h_y5) Y)<|sd 3 Y Y<|sr 4 Y (rFn<|rld cmp_d)<|sd 18 Y Y<|sd 24 Y Y sn⟩
       ·
        exact Zh<|⟨_, h, ES [some 0]<|sr 0 Y (.own _ Y)<|sd 3 Y Y<|sr 4 Y (rFn<|rld cmp_d)<|sd 18 Y Y<|sd 24 Y Y sn⟩
      ·
       refine Tr<|Rm Y<|Rm Y<|R2 ZT Y<|Rm Y<|Rq Y (.guarded ((decide ((i64 q3) < (i64 ((i64 ((i64 q3) + m)) - start2)))) == true) Y Y Y Y fun h => Zc<|ov Y)<|Rq Y (.guarded ((decide ((i64 q3) < (i64 ((i64 ((i64 q3) + m)) - start2)))) == true) Y Y Y Y fun h => Zc<|ov Y)<|Rq Y (.guarded ((decide ((i64 q3) < (i64 ((i64 ((i64 q3) + m)) - start2)))) == true) Y Y Y Y fun h => ZT (ow Y h)<|ow Y h)<|Rq Y (Zdj (ov Y) fun hp=>ow Y<|gT hp)<|Za<|K6 0 3 4 18 24 213 Y<|If h Y (fun h=>?_) fun h=>?_
       ·
        refine K5 0 3 4 18 24 Y<|Zs<|Rm Y<|Rm Y<|Rm Y<|Rm Y<|Rm Y<|bE h fun y6 h_y6 h=>Rx Y (ZE [0] (hrec cmp_d cmp_h h_y6) (.cons (ov Y) (.own _ Y)<|.cons (ov Y) (.dat Y)<|.cons (ov Y) (.dat Y)<|.cons (ov Y) (.dat Y)<|.cons (ov Y) (rFn<|rld cmp_d) .nil) (.cons Y (roM D3) .nil) Y (.lent 0 (.inl Y) Y (roM D3) .nil) Y Y<|Xe<|rld Y)<|Za<|?_
        obtain rfl := rt h
        exact ZgG [some 0] Y .nil (.cons Y (roM D3) .nil) Y Y<|Xe rln
       ·
        refine Zh<|?_
        obtain rfl := rt h
        exact ZgG [some 0] Y .nil (.cons Y (roM D3) .nil) Y Y<|Xe rln
theorem Zah {n_ : Nat} {data : List Int} {a : Int} {m : Int} {b : Int} {cmp : Int → Int → Option Int} {r : (List Int)} {cmp_f : FuncId} {cmp_c : List AV} (cmp_d : cmp_c.all datB = true) (cmp_h : ∀ (z0 : Int) (z1 : Int) z, cmp z0 z1 = some z → CSpec Tryd.prog gl0 cmp_f ([.int .i64 z0, .int .i64 z1] ++ cmp_c) (.int .i64 z)) (h : ZF n_ data a m b cmp = some r) :
 GSpec Tryd.prog gl0 97 [.own 0 data.length, .int .i64 a, .int .i64 m, .int .i64 b, .fn cmp_f cmp_c] [some ⟨3, List.map R3 data⟩] (.tuple []) [some ⟨3, List.map R3 r⟩] := by
 induction n_ generalizing data a m b cmp r cmp_f cmp_c with
 | zero => cases h
 | succ n ih => exact Zcr cmp_d cmp_h Qs (fun cmp_d cmp_h h => ih cmp_d cmp_h h) h
theorem ZdF {data : List Int} {n : Int} {cmp : Int → Int → Option Int} {r : (List Int)} {cmp_f : FuncId} {cmp_c : List AV} (cmp_d : cmp_c.all datB = true) (cmp_h : ∀ (z0 : Int) (z1 : Int) z, cmp z0 z1 = some z → CSpec Tryd.prog gl0 cmp_f ([.int .i64 z0, .int .i64 z1] ++ cmp_c) (.int .i64 z)) (h : Z3 data n cmp = some r) :
 GSpec Tryd.prog gl0 73 [.own 0 data.length, .int .i64 n, .fn cmp_f cmp_c] [some ⟨3, List.map R3 data⟩] (.tuple []) [some ⟨3, List.map R3 r⟩] := by
 unfold Z3 at h
 replace h := QO h
 refine Q0 (by kernel_rfl) Tryd.func73 Y Y<|?_
 intro w0 A W φ0
 refine Tr<|Ra Y<|Za<|Tr<|Rm Y<|Ra Y<|Ra Y<|Za<|I2 (fun o a=>⟨[(0, .own 0 o.length), (1, .int .i64 n), (2, .fn cmp_f cmp_c), (6, .int .i64 20), (7, .int .i64 a)], [some ⟨3, List.map R3 o⟩]⟩) h (fun h=>?_) fun o a h=>?_
 ·
  refine Zf<|?_
  obtain ⟨r1, hl1, ho1⟩ := Xm h
  refine L3 (fun o2 a2 b=>⟨[(0, .own 0 o2.length), (1, .int .i64 n), (2, .fn cmp_f cmp_c), (6, .int .i64 20), (7, .int .i64 a2), (8, .int .i64 b)], [some ⟨3, List.map R3 o2⟩]⟩) hl1 (ES [some 0]<|sr 0 Y (.own _ Y)<|sd 1 Y Y<|sr 2 Y (rFn<|rld cmp_d)<|sd 6 Y Y<|sd 7 Y Y<|sd 8 Y Y sn) fun n1 o2 a2 b h=>?_
  unfold ZH at h
  refine Zg<|Tr<|Rm Y<|Rm Y<|R2 Zkh Y<|Za<|K7 0 1 2 6 7 8 13 Y<|If h Y (fun h=>?_) fun h=>?_
  ·
   exact Zh<|Zf<|K6 0 1 2 6 7 8 Y<|Tr<|Rm Y<|Rm Y<|Rm Y<|Rm Y<|bE h fun y h_y h=>Rx Y (ZE [0] (Jl cmp_d cmp_h h_y) (.cons (ov Y) (.own _ Y)<|.cons (ov Y) (.dat Y)<|.cons (ov Y) (.dat Y)<|.cons (ov Y) (rFn<|rld cmp_d) .nil) (.cons Y (roM D3) .nil) Y (.lent 0 (.inl Y) Y (roM D3) .nil) Y Y<|Xe<|rld Y)<|Za<|K6 0 1 2 6 7 8 Y<|Tr<|Rm Y<|Ra Y<|Za<|K6 0 1 2 6 7 8 Y<|Zs<|Rm Y<|Rm Y<|R2 ZU Y<|Ra Y<|Za<|⟨_, h, ES [some 0]<|sr 0 Y (Zds (Eq.symm<|QB h_y) Y)<|sd 1 Y Y<|sr 2 Y (rFn<|rld cmp_d)<|sd 6 Y Y<|sd 7 Y Y<|sd 8 Y Y sn⟩
  ·
   refine ZM<|?_
   replace h := lx h ▸ ho1
   exact ⟨_, h, ES [some 0]<|sr 0 Y (.own _ Y)<|sd 1 Y Y<|sr 2 Y (rFn<|rld cmp_d)<|sd 6 Y Y<|sd 7 Y Y sn⟩
 ·
  refine Tr<|Rm Y<|Rm Y<|Rm Y<|Rm Y<|bE h fun y2 h_y2 h=>Rx Y (ZE [0] (Jl cmp_d cmp_h h_y2) (.cons (ov Y) (.own _ Y)<|.cons (ov Y) (.dat Y)<|.cons (ov Y) (.dat Y)<|.cons (ov Y) (rFn<|rld cmp_d) .nil) (.cons Y (roM D3) .nil) Y (.lent 0 (.inl Y) Y (roM D3) .nil) Y Y<|Xe<|rld Y)<|Za<|Zf<|?_
  obtain ⟨r2, hl2, ho2⟩ := Xm h
  refine L2 (fun o3 blockSize=>⟨[(0, .own 0 o3.length), (1, .int .i64 n), (2, .fn cmp_f cmp_c), (6, .int .i64 blockSize)], [some ⟨3, List.map R3 o3⟩]⟩) hl2 (ES [some 0]<|sr 0 Y (Zds (Eq.symm<|QB h_y2) Y)<|sd 1 Y Y<|sr 2 Y (rFn<|rld cmp_d)<|sd 6 Y Y sn) fun n2 o3 blockSize h=>?_
  unfold ZD at h
  refine Zg<|Tr<|Rm Y<|Rm Y<|R2 ZT Y<|Za<|K5 0 1 2 6 30 Y<|If h Y (fun h=>?_) fun h=>?_
  ·
   refine Zh<|Zf<|K4 0 1 2 6 Y<|Tr<|Rm Y<|R2 ZgY Y<|Ra Y<|Ra Y<|Za<|I2 (fun o4 a3=>⟨[(0, .own 0 o4.length), (1, .int .i64 n), (2, .fn cmp_f cmp_c), (6, .int .i64 blockSize), (7, .int .i64 a3)], [some ⟨3, List.map R3 o4⟩]⟩) h (fun h=>?_) fun o4 a3 h=>?_
   ·
    refine Zf<|?_
    obtain ⟨r3, hl3, ho3⟩ := Xm h
    refine L3 (fun o5 a4 b2=>⟨[(0, .own 0 o5.length), (1, .int .i64 n), (2, .fn cmp_f cmp_c), (6, .int .i64 blockSize), (7, .int .i64 a4), (8, .int .i64 b2)], [some ⟨3, List.map R3 o5⟩]⟩) hl3 (ES [some 0]<|sr 0 Y (.own _ Y)<|sd 1 Y Y<|sr 2 Y (rFn<|rld cmp_d)<|sd 6 Y Y<|sd 7 Y Y<|sd 8 Y Y sn) fun n3 o5 a4 b2 h=>?_
    unfold ZC at h
    refine Zg<|Tr<|Rm Y<|Rm Y<|R2 Zkh Y<|Za<|K7 0 1 2 6 7 8 35 Y<|If h Y (fun h=>?_) fun h=>?_
    ·
     exact Zh<|Zf<|K6 0 1 2 6 7 8 Y<|Tr<|Rm Y<|Rm Y<|Rm Y<|Rm Y<|R2 ZU Y<|Rm Y<|Rm Y<|bE h fun y3 h_y3 h=>Rx Y (ZE [0] (Zah cmp_d cmp_h h_y3) (.cons (ov Y) (.own _ Y)<|.cons (ov Y) (.dat Y)<|.cons (ov Y) (.dat Y)<|.cons (ov Y) (.dat Y)<|.cons (ov Y) (rFn<|rld cmp_d) .nil) (.cons Y (roM D3) .nil) Y (.lent 0 (.inl Y) Y (roM D3) .nil) Y Y<|Xe<|rld Y)<|Za<|K6 0 1 2 6 7 8 Y<|Tr<|Rm Y<|Ra Y<|Za<|K6 0 1 2 6 7 8 Y<|Zs<|Rm Y<|Rm Y<|R2 ZgY Y<|R2 ZU Y<|Ra Y<|Za<|⟨_, h, ES [some 0]<|sr 0 Y (Zds (Eq.symm<|Qs h_y3) Y)<|sd 1 Y Y<|sr 2 Y (rFn<|rld cmp_d)<|sd 6 Y Y<|sd 7 Y Y<|sd 8 Y Y sn⟩
    ·
     refine ZM<|?_
     replace h := lx h ▸ ho3
     exact ⟨_, h, ES [some 0]<|sr 0 Y (.own _ Y)<|sd 1 Y Y<|sr 2 Y (rFn<|rld cmp_d)<|sd 6 Y Y<|sd 7 Y Y sn⟩
   ·
    refine Zg<|Tr<|Rm Y<|Rm Y<|R2 ZU Y<|Ra Y<|Za<|K6 0 1 2 6 7 9 Y<|Tr<|Rm Y<|Rm Y<|R2 ZT Y<|Za<|K7 0 1 2 6 7 9 54 Y<|If h Y (fun h=>?_) fun h=>?_
    ·
     exact K6 0 1 2 6 7 9 Y<|Zs<|Rm Y<|Rm Y<|Rm Y<|Rm Y<|Rm Y<|bE h fun y4 h_y4 h=>Rx Y (ZE [0] (Zah cmp_d cmp_h h_y4) (.cons (ov Y) (.own _ Y)<|.cons (ov Y) (.dat Y)<|.cons (ov Y) (.dat Y)<|.cons (ov Y) (.dat Y)<|.cons (ov Y) (rFn<|rld cmp_d) .nil) (.cons Y (roM D3) .nil) Y (.lent 0 (.inl Y) Y (roM D3) .nil) Y Y<|Xe<|rld Y)<|Za<|K4 0 1 2 6 Y<|Zs<|Rm Y<|R2 ZgY Y<|Ra Y<|Za<|⟨_, h, ES [some 0]<|sr 0 Y (Zds (Eq.symm<|Qs h_y4) Y)<|sd 1 Y Y<|sr 2 Y (rFn<|rld cmp_d)<|sd 6 Y Y sn⟩
    ·
     exact Zh<|K4 0 1 2 6 Y<|Zs<|Rm Y<|R2 ZgY Y<|Ra Y<|Za<|⟨_, h, ES [some 0]<|sr 0 Y (.own _ Y)<|sd 1 Y Y<|sr 2 Y (rFn<|rld cmp_d)<|sd 6 Y Y sn⟩
  ·
   refine ZM<|?_
   replace h := lx h ▸ ho2
   obtain rfl := rt h
   exact ZgG [some 0] Y .nil (.cons Y (roM D3) .nil) Y Y<|Xe rln
theorem Zcm {x : List Int} {cmp : Int → Int → Option Int} {r : (List Int)} {cmp_f : FuncId} {cmp_c : List AV} (cmp_d : cmp_c.all datB = true) (cmp_h : ∀ (z0 : Int) (z1 : Int) z, cmp z0 z1 = some z → CSpec Tryd.prog gl0 cmp_f ([.int .i64 z0, .int .i64 z1] ++ cmp_c) (.int .i64 z)) (h : ZK x cmp = some r) :
 GSpec Tryd.prog gl0 46 [.own 0 x.length, .fn cmp_f cmp_c] [some ⟨3, List.map R3 x⟩] (.tuple []) [some ⟨3, List.map R3 r⟩] := by
 unfold ZK at h
 replace h := QO h
 refine Q0 (by kernel_rfl) Tryd.func46 Y Y<|?_
 intro w0 A W φ0
 refine Zs<|Rm Y<|Rm Y<|Rq Y (Zfj (ov Y) Y Y Xg)<|Rm Y<|bE h fun y h_y h=>Rx Y (ZE [0] (ZdF cmp_d cmp_h h_y) (.cons (ov Y) (.own _ Y)<|.cons (ov Y) (.dat Y)<|.cons (ov Y) (rFn<|rld cmp_d) .nil) (.cons Y (roM D3) .nil) Y (.lent 0 (.inl Y) Y (roM D3) .nil) Y Y<|Xe<|rld Y)<|Za<|?_
 obtain rfl := rt h
 exact ZgG [some 0] Y .nil (.cons Y (roM D3) .nil) Y Y<|Xe rln
theorem Zek {i : Int} {c0 : api_Memory} {r : Int} (h : XL i c0 = some r) :
 CSpec Tryd.prog gl0 45 [.int .i64 i, .rp [.int .i64 c0.Slots, .int .i64 c0.Limit, .sl 29 (List.map R29 c0.Sectors), .sl 3 (List.map R3 c0.Wear), .sl 4 (List.map R4 c0.Bad)] 0] (.int .i64 r) := by
 unfold XL at h
 replace h := QO h
 refine So Tryd.func45 Y fun w0 A=>Tr<|Ra Y<|Za<|K2 0 1 Y<|Tr<|Rq Y (Qj (ov Y) ZQ)<|Rq Y (Zi (ov Y) QH Y)<|Rm Y<|bE h fun x h_x h=>Rq Y (Qz (ov Y) (ov Y) Qo h_x)<|Rq Y (Zi (ov Y) Zh7 Y)<|bE h fun y h_y h=>Rq Y (Zt (Zcl h_y)<|.cons (ov Y) (.b Y) .nil)<|Rm Y<|Rq Y (Zm (ov Y) Y)<|Rq Y (Zm (ov Y) Y)<|Rq Y (Zm (ov Y) Y)<|Ra Y<|Ra Y<|Ra Y<|Za<|K1 4 Y<|Tr<|Rm Y<|Ra Y<|Za<|?_
 obtain rfl := rt h
 exact Zp (Z5 Y (.one<|rb Y))
theorem Zhx {a : Int} {b : Int} {k : api_Memory} {r : Int} (h : XK a b k = some r) :
 CSpec Tryd.prog gl0 47 [.int .i64 a, .int .i64 b, .rp [.fn 45 [.rp [.int .i64 k.Slots, .int .i64 k.Limit, .sl 29 (List.map R29 k.Sectors), .sl 3 (List.map R3 k.Wear), .sl 4 (List.map R4 k.Bad)] 0]] 0] (.int .i64 r) := by
 unfold XK at h
 replace h := QO h
 refine So Tryd.func47 Y fun w0 A=>Tr<|Ra Y<|Za<|Zg<|QL (cw := md0) (by kernel_rfl)<|Dq 0 Y (Zi (ov Y) ZpV Y)<|D1 1 Zc Y<|bE h fun y h_y h=>Dq 2 Y (Zfe (ov Y) Y (Zek h_y)<|.cons (ov Y) (.b Y) .nil)<|Dq 3 Y (Zi (ov Y) ZpV Y)<|D1 4 Zc Y<|bE h fun y2 h_y2 h=>Dq 5 Y (Zfe (ov Y) Y (Zek h_y2)<|.cons (ov Y) (.b Y) .nil)<|D2 6 Zcq Y<|D1 7 QN Y<|Dd<|?_
 obtain rfl := rt h
 exact Zp (Z5 Y (.one<|rb Y))
theorem ZfC {m : api_Memory} {r : (List Int)} (h : Xp m = some r) :
 CSpec Tryd.prog gl0 26 [.agg [.int .i64 m.Slots, .int .i64 m.Limit, .sl 29 (List.map R29 m.Sectors), .sl 3 (List.map R3 m.Wear), .sl 4 (List.map R4 m.Bad)]] (.sl 3 (List.map R3 r)) := by
 unfold Xp at h
 replace h := QO h
 refine So Tryd.func26 Y fun w0 A=>Tr<|Rq Y (Zdx (cva<|ov Y) Y tZ_60 Y)<|Ra Y<|Za<|K1 1 Y<|Tr<|Ra Y<|Za<|Tr<|Rq Y (ZjN<|.cons (ov Y) .nil)<|Rx Y (Qd (row := [_]) 0 Y ZrC Y tZ_96)<|Rx Y (Zk (ov Y) (ov Y) (Ze ZpV) Y Y Y (Nat.le_of_ble_eq_true Y) (Zb Y) Y)<|Za<|I1 (fun out=>⟨[(3, .own 0 out.length), (4, .ptr 1 1 0 0)], [some ⟨3, List.map R3 out⟩, some ⟨96, [[.fn 45 [.rp [.int .i64 m.Slots, .int .i64 m.Limit, .sl 29 (List.map R29 m.Sectors), .sl 3 (List.map R3 m.Wear), .sl 4 (List.map R4 m.Bad)] 0]]]⟩]⟩) h (fun h=>?_) fun out h=>?_
 ·
  refine K3 1 3 4 Y<|Tr<|Rq Y (Qj (ov Y) ZQ)<|Rq Y (Zi (ov Y) QH Y)<|Rl tZ_29 Qo Y<|Rm Y<|Za<|Zf<|?_
  obtain ⟨r1, hl1, ho1⟩ := Xm h
  refine L2 (fun out2 i=>⟨[(1, .rp [.int .i64 m.Slots, .int .i64 m.Limit, .sl 29 (List.map R29 m.Sectors), .sl 3 (List.map R3 m.Wear), .sl 4 (List.map R4 m.Bad)] 0), (3, .own 0 out2.length), (4, .ptr 1 1 0 0), (12, .sl 29 (List.map R29 m.Sectors)), (13, .int .i64 (m.Sectors.length : Int)), (14, .int .i64 i)], [some ⟨3, List.map R3 out2⟩, some ⟨96, [[.fn 45 [.rp [.int .i64 m.Slots, .int .i64 m.Limit, .sl 29 (List.map R29 m.Sectors), .sl 3 (List.map R3 m.Wear), .sl 4 (List.map R4 m.Bad)] 0]]]⟩]⟩) hl1 (ES [none, some 0] (hhp := .row 3<|.cons Y (ro1 (by exact tZ_96.symm)<|rlc (rFn<|rlc (.dat Y) rln) rln) .nil)) fun n1 out2 i h=>?_
  unfold X6 at h
  refine Tr<|R2 ZT Y<|Za<|Zg<|If h Y (fun h=>?_) fun h=>?_
  ·
   refine Zh<|Zg<|Zf<|K6 1 3 4 12 13 14 Y<|Tr<|Rm Y<|bE h fun x h_x h=>Rq Y (Qz (ov Y) (ov Y) Qo h_x)<|Rq Y (Zi (ov Y) Zh7 Y)<|Ra Y<|Ra Y<|Za<|K8 1 3 4 5 6 12 13 14 Y<|Tr<|Rm Y<|bE h fun y h_y h=>Rq Y (Zt (Zcl h_y)<|.cons (ov Y) (.b Y) .nil)<|Rm Y<|Rq Y (Zm (ov Y) Y)<|Rq Y (Zm (ov Y) Y)<|Rq Y (Zm (ov Y) Y)<|Ra Y<|Ra Y<|Ra Y<|Za<|K8 1 3 4 5 9 12 13 14 Y<|Tr<|Rm Y<|Rm Y<|Rq Y (.guarded (y.2.2 == true) Y Y Y Y fun h => Qj (ov Y) Zim)<|Rq Y (.guarded (y.2.2 == true) Y Y Y Y fun h => Zi (ow Y h) Zl3 Y)<|Rq Y (.guarded (y.2.2 == true) Y Y Y Y fun h => Zc<|ov Y)<|bE h fun x2 h_x2 h=>Rq Y (.guarded (y.2.2 == true) Y Y Y Y fun h => Qz (ow Y h) (ow Y h) Zj0<|gdT h_x2 h)<|Rq Y (.guarded (y.2.2 == true) Y Y Y Y fun h => Zi (ow Y h) tS4 Y)<|Rq Y (.guarded (y.2.2 == true) Y Y Y Y fun h => J9<|ow Y h)<|Rq Y (Zdj (ov Y) fun hp=>ow Y<|gT hp)<|Za<|K8 1 3 4 5 12 13 14 33 Y<|If h Y (fun h=>?_) fun h=>?_
   ·
    exact K7 1 3 4 5 12 13 14 Y<|Zs<|Rm Y<|Rm Y<|R_q (.sl 3<|List.map R3 ([i] : List Int)) Y (Zae Xg (.cons (cvs (ov Y)<|Zn Y) Y (.cons (.b Y) .nil) .nil) Y Y)<|bE h fun l h_l h=>Rx Y (XT (ov Y) (Jb (ov Y) tZ_3) Xg Y Y Y (fun _=>Zb Y) Y h_l)<|Ra Y<|Za<|K6 1 3 4 12 13 14 Y<|Zs<|R2 ZU Y<|Rm Y<|Za<|⟨_, h, ES [some 0, some 1] (hhp := .cons Y (roM D3)<|.cons Y (ro1 (by exact tZ_96.symm)<|rlc (rFn<|rlc (.dat Y) rln) rln) .nil)⟩
   ·
    exact Zh<|K6 1 3 4 12 13 14 Y<|Zs<|R2 ZU Y<|Rm Y<|Za<|⟨_, h, ES [some 0, some 1] (hhp := .cons Y (roM D3)<|.cons Y (ro1 (by exact tZ_96.symm)<|rlc (rFn<|rlc (.dat Y) rln) rln) .nil)⟩
  ·
   refine ZM<|?_
   replace h := lx h ▸ ho1
   exact ⟨_, h, ES [some 0, some 1] (hhp := .cons Y (roM D3)<|.cons Y (ro1 (by exact tZ_96.symm)<|rlc (rFn<|rlc (.dat Y) rln) rln) .nil)⟩
 ·
  refine Tr<|Rm Y<|Xz (Ent.sel [some 0, none] (sr 3 Y (.own (r' := 0) _ Y)<|sr 4 Y (.frp ⟨Y, ⟨_, Y⟩, Y, Y⟩)<|sr 39 Y (.own (r' := 0) _ Y) sn) (.cons Y (roM D3)<|.row 96 .nil) Y Y)<|Rq Y (ZjN<|.cons (ov Y) .nil)<|bE h fun y2 h_y2 h=>Rx Y (ZE [0] (Zcm Y (fun z0 z1 _ hz=>Zhx hz) h_y2) (.cons (ov Y) (.own _ Y)<|.cons (ov Y) (.dat Y) .nil) (.cons Y (roM D3) .nil) Y (.lent 0 (.inl Y) Y (roM D3)<|.keep Y Y .nil) Y Y<|Xe<|rld Y)<|Za<|K1 3 Y<|Tr<|Rm Y<|Ra Y<|Za<|?_
  obtain rfl := rt h
  exact Zp (Z5 Y (.one<|.tmp Y<|View.ownM Y (Zb5 h_y2) D3))
theorem ZfU {s : List Int} {i : Int} {r : (Vector Int 97)} (h : JJ s i = some r) :
 CSpec Tryd.prog gl0 28 [.sl 5 (List.map R5 s), .int .i64 i] (.rp (List.map C5 r.toList) 0) := by
 unfold JJ at h
 replace h := QO h
 refine So Tryd.func28 Y fun w0 A=>Tr<|Ra Y<|Za<|K2 0 1 Y<|Tr<|Rm Y<|R2 ZgY Y<|R2 ZU Y<|Ra Y<|Za<|K2 0 5 Y<|Tr<|Rm Y<|Rm Y<|Rm Y<|R2 ZU Y<|bE h fun l h_l h=>Rq Y (ZjK (ov Y) Xf (oi<|ov Y) (oi<|ov Y) h_l)<|bE h fun v h_v h=>Rq Y (ZlX (f := C5) (ov Y) ZmG tZ_5 Y h_v)<|Ra Y<|Za<|?_
 obtain rfl := rt h
 exact Zp (Z5 Y (.one<|rb Y))
theorem Zdh {s : List Int} {f : Int → Option Bool} {r : Int} {f_f : FuncId} {f_c : List AV} (f_d : f_c.all datB = true) (f_h : ∀ (z0 : Int) z, f z0 = some z → CSpec Tryd.prog gl0 f_f ([.int .u8 z0] ++ f_c) (.bool z)) (h : Ql s f = some r) :
 CSpec Tryd.prog gl0 74 [.sl 5 (List.map R5 s), .fn f_f f_c] (.int .i64 r) := by
 unfold Ql at h
 replace h := QO h
 refine So Tryd.func74 Y fun w0 A=>Tr<|Ra Y<|Za<|J0 (fun j => (.inr j)) ⟨[], []⟩ h (fun h=>?_) fun h=>?_
 ·
  refine K2 0 1 Y<|Tr<|Rm Y<|Rl tZ_5 Xf Y<|Rm Y<|Za<|Zf<|?_
  obtain ⟨r1, hl1, ho1⟩ := Xm h
  refine L1 (fun i=>⟨[(0, .sl 5 (List.map R5 s)), (1, .fn f_f f_c), (7, .int .i64 (s.length : Int)), (8, .int .i64 i)], []⟩) hl1 (ES []<|sd 0 Y Y<|sr 1 Y (rFn<|rld f_d)<|sd 7 Y Y<|sd 8 Y Y sn) fun n1 i h=>?_
  unfold ZV at h
  refine Tr<|R2 ZT Y<|Za<|Zg<|If h Y (fun h=>?_) fun h=>?_
  ·
   refine Zh<|Zg<|Zf<|K4 0 1 7 8 Y<|Tr<|Rm Y<|Ra Y<|Za<|K5 0 1 5 7 8 Y<|Tr<|Rm Y<|Rm Y<|Rm Y<|bE h fun x h_x h=>Rq Y (Qz (ov Y) (ov Y) Xf h_x)<|Rq Y (Zi (ov Y) tS5 Y)<|bE h fun y h_y h=>Rq Y (Zfe (ov Y) f_d (f_h _ _ h_y)<|.cons (ov Y) (.b Y) .nil)<|Za<|K6 0 1 5 7 8 16 Y<|If h Y (fun h=>?_) fun h=>?_
   ·
    refine K1 5 Y<|Tr<|Rm Y<|Ra Y<|Za<|?_
    replace h := lx h ▸ ho1
    obtain rfl := rt h
    exact Zp (Z5 Y (.one<|rb Y))
   ·
    exact Zh<|K4 0 1 7 8 Y<|Zs<|R2 ZU Y<|Rm Y<|Za<|⟨_, h, ES []<|sd 0 Y Y<|sr 1 Y (rFn<|rld f_d)<|sd 7 Y Y<|sd 8 Y Y sn⟩
  ·
   refine ZM<|?_
   replace h := lx h ▸ ho1
   exact ⟨(), h, ES []⟩
 ·
  replace h := elr h
  replace h := t0i h
  refine Tr<|Ra Y<|Za<|?_
  obtain rfl := rt h
  exact Zp (Z5 Y (.one<|rb Y))
theorem ZbV {s : List Int} {f : Int → Option Bool} {r : Bool} {f_f : FuncId} {f_c : List AV} (f_d : f_c.all datB = true) (f_h : ∀ (z0 : Int) z, f z0 = some z → CSpec Tryd.prog gl0 f_f ([.int .u8 z0] ++ f_c) (.bool z)) (h : ZW s f = some r) :
 CSpec Tryd.prog gl0 50 [.sl 5 (List.map R5 s), .fn f_f f_c] (.bool r) := by
 unfold ZW at h
 replace h := QO h
 refine So Tryd.func50 Y fun w0 A=>Tr<|Ra Y<|Za<|Tr<|Rm Y<|Rm Y<|bE h fun y h_y h=>Rq Y (Zt (Zdh f_d f_h h_y)<|.cons (ov Y) (.b Y)<|.cons (ov Y) (Dat.fnC<|.refl fun x hx => .b<|List.all_eq_true.1 f_d x hx) .nil)<|R2 ZiI Y<|Ra Y<|Za<|?_
 obtain rfl := rt h
 exact Zp (Z5 Y (.one<|rb Y))
theorem Zhw {b : Int} {r : Bool} (h : XM b = some r) :
 CSpec Tryd.prog gl0 51 [.int .u8 b] (.bool r) := by
 unfold XM at h
 replace h := QO h
 refine So Tryd.func51 Y fun w0 A=>Tr<|Ra Y<|Za<|Tr<|Rm Y<|R2 Jv Y<|Ra Y<|Za<|?_
 obtain rfl := rt h
 exact Zp (Z5 Y (.one<|rb Y))
theorem ZfB {p : Vector Int 97} {r : Int} (h : JE p = some r) :
 CSpec Tryd.prog gl0 29 [.rp (List.map C5 p.toList) 0] (.int .i64 r) := by
 unfold JE at h
 replace h := QO h
 refine So Tryd.func29 Y fun w0 A=>Tr<|Ra Y<|Za<|Zg<|Zf<|K1 0 Y<|Tr<|Rm Y<|R1 ZN Y<|bE h fun x h_x h=>Rq Y (Xu (ov Y) (ov Y) ZmG h_x)<|Rq Y (Zi (ov Y) tS5<|QF<|Jr (o := 0) (o' := ((Int.toNat 96) * 1)) (Zu arL)<|Jk h_x)<|R2 Zdf Y<|Ra Y<|Za<|K2 0 3 Y<|If h Y (fun h=>?_) fun h=>?_
 ·
  refine K0<|Tr<|Ra Y<|Za<|?_
  obtain rfl := rt h
  exact Zp (Z5 Y (.one<|rb Y))
 ·
  refine K1 0 Y<|Tr<|Rm Y<|R1 ZN Y<|bE h fun l h_l h=>Rq Y (Zmo (f := C5) (ov Y) ZmG tZ_5 (Zu arL) Y on on h_l)<|bE h fun y h_y h=>Rq Y (Zt (ZbV Y (fun z0 _ hz=>Zhw hz) h_y)<|.cons (ov Y) (.b Y)<|.cons (ov Y) .fn .nil)<|Ra Y<|Za<|K1 9 Y<|If h Y (fun h=>?_) fun h=>?_
  ·
   refine K0<|Tr<|Ra Y<|Za<|?_
   obtain rfl := rt h
   exact Zp (Z5 Y (.one<|rb Y))
  ·
   refine Zh<|K0<|Tr<|Ra Y<|Za<|?_
   obtain rfl := rt h
   exact Zp (Z5 Y (.one<|rb Y))
theorem ZiO {p : Vector Int 96} {i : Int} {r : Int} (h : Zau p i = some r) :
 CSpec Tryd.prog gl0 75 [.rp (List.map C5 p.toList) 0, .int .i64 i] (.int .u16 r) := by
 unfold Zau at h
 replace h := QO h
 refine So Tryd.func75 Y fun w0 A=>Tr<|Ra Y<|Za<|K2 0 1 Y<|Tr<|Rm Y<|bE h fun q h_q h=>Rq Y (ZgX (ov Y) (ov Y) h_q)<|R2 ZgY Y<|Ra Y<|Za<|Zg<|K3 0 1 5 Y<|Tr<|Rm Y<|bE h fun q2 h_q2 h=>Rq Y (Zbh (ov Y) (ov Y) h_q2)<|R2 Zdf Y<|Za<|K3 0 5 11 Y<|If h Y (fun h=>?_) fun h=>?_
 ·
  refine Zg<|K2 0 5 Y<|QL (cw := md0) (by kernel_rfl)<|D1 0 Zc Y<|D1 1 Zc Y<|D1 2 ZN Y<|bE h fun x h_x h=>Dq 3 Y (Xu (ov Y) (ov Y) Zeo h_x)<|Dq 4 Y (Zi (ov Y) tS5<|QF<|Jr (o := 0) (o' := ((i64 (q * 3)).toNat * 1)) (Zu arL)<|Jk h_x)<|Dq 5 Y (Qx (ov Y) tI5 Zeb Y)<|bE h fun q3 h_q3 h=>Dq 6 Y (ZeW (ov Y) (ov Y) h_q3)<|D1 7 Zc Y<|D1 8 Zc Y<|D2 9 ZU Y<|D1 10 ZN Y<|bE h fun x2 h_x2 h=>Dq 11 Y (Xu (ov Y) (ov Y) Zeo h_x2)<|Dq 12 Y (Zi (ov Y) tS5<|QF<|Jr (o := 0) (o' := ((i64 ((i64 (q * 3)) + 1)).toNat * 1)) (Zu arL)<|Jk h_x2)<|Dq 13 Y (Qx (ov Y) tI5 Zeb Y)<|bE h fun q4 h_q4 h=>Dq 14 Y (Zbf (ov Y) (ov Y) h_q4)<|D2 15 ZgI Y<|D1 16 QN Y<|Dd<|?_
  obtain rfl := rt h
  exact Zp (Z5 Y (.one<|rb Y))
 ·
  refine Zh<|Zg<|K2 0 5 Y<|QL (cw := md0) (by kernel_rfl)<|D1 0 Zc Y<|D1 1 Zc Y<|D2 2 ZU Y<|D1 3 ZN Y<|bE h fun x3 h_x3 h=>Dq 4 Y (Xu (ov Y) (ov Y) Zeo h_x3)<|Dq 5 Y (Zi (ov Y) tS5<|QF<|Jr (o := 0) (o' := ((i64 ((i64 (q * 3)) + 1)).toNat * 1)) (Zu arL)<|Jk h_x3)<|Dq 6 Y (Qx (ov Y) tI5 Zeb Y)<|D2 7 ZbE Y<|bE h fun q5 h_q5 h=>Dq 8 Y (ZeW (ov Y) (ov Y) h_q5)<|D1 9 Zc Y<|D1 10 Zc Y<|D2 11 ZU Y<|D1 12 ZN Y<|bE h fun x4 h_x4 h=>Dq 13 Y (Xu (ov Y) (ov Y) Zeo h_x4)<|Dq 14 Y (Zi (ov Y) tS5<|QF<|Jr (o := 0) (o' := ((i64 ((i64 (q * 3)) + 2)).toNat * 1)) (Zu arL)<|Jk h_x4)<|Dq 15 Y (Qx (ov Y) tI5 Zeb Y)<|D2 16 ZgI Y<|D1 17 QN Y<|Dd<|?_
  obtain rfl := rt h
  exact Zp (Z5 Y (.one<|rb Y))
end Go.Proofs.YtnlmjeleocelgaaDoor
